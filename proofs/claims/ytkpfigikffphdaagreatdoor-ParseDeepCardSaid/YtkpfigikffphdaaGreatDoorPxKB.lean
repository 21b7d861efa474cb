/-
  Lemmas, part K2: what the claim needs of the texts of wip/tpl.
-/
import Derived.Lib.SmallJoins
import Derived.Lib.SplitLaws
import Derived.Test.YtkpfigikffphdaaGreatDoorPxKA
set_option linter.unusedVariables false
set_option linter.unusedSimpArgs false
section
namespace Go.Proofs.YtkpfigikffphdaaGreatDoor
open Go.RowKit
def ErrIs (w:World)(name:String):Prop:=∃ tp p,w.var? Tryz.prog name=some #[.iface tp p]
def We (w:World):Prop:=Wd w∧ErrIs w "strconv.ErrSyntax" ∧ ErrIs w "strconv.ErrRange"
theorem gSyntax:Tryz.prog.globalNamed "strconv.ErrSyntax" = some 8:=by kernel_rfl
theorem gRange:Tryz.prog.globalNamed "strconv.ErrRange" = some 9:=by kernel_rfl
def NGe:Nat:=max NGd (max (8+1) (9+1))
theorem nge_d:NGd≤NGe:=by unfold NGe;omega
theorem err_size {w:World}{name:String}{g:Nat}(hg:Tryz.prog.globalNamed name=some g)(h:ErrIs w name):g+1≤w.heap.size:=by
 obtain⟨tp,p,h⟩:=h
 unfold World.var? at h
 rw[hg] at h
 simp only[Option.bind_some] at h
 rcases e:w.heap[g]? with _|o
 ·rw[e] at h;cases h
 ·exact (Array.getElem?_eq_some_iff.1 e).1
theorem we_size {w:World}(h:We w):NGe≤w.heap.size:=by
 have h1:=wd_size h.1
 have h2:=err_size gSyntax h.2.1
 have h3:=err_size gRange h.2.2
 unfold NGe
 omega
theorem woke:WOK NGe We:=by
 intro w w' h hW
 refine⟨wokd w w' (fun b hb=>h b (Nat.lt_of_lt_of_le hb nge_d)) hW.1,?_,?_⟩
 ·obtain⟨tp,p,hv⟩:=hW.2.1
  refine⟨tp,p,?_⟩
  rw[← hv]
  unfold World.var?
  rw[gSyntax]
  simp only[Option.bind_some]
  rw[h _ (of_decide_eq_true (by kernel_rfl))]
 ·obtain⟨tp,p,hv⟩:=hW.2.2
  refine⟨tp,p,?_⟩
  rw[← hv]
  unfold World.var?
  rw[gRange]
  simp only[Option.bind_some]
  rw[h _ (of_decide_eq_true (by kernel_rfl))]
theorem fok_mono {W V:World→Prop}(h:∀ w,V w→W w){f:FuncId}{p:PFn}(hp:FOK NGd W f p):FOK NGe V f p where
 nat:=hp.nat
 call:=fun M xs vs r hW hng=>hp.call M xs vs r (h _ hW) (Nat.le_trans nge_d hng)
theorem we_d:∀ w,We w→Wd w:=fun w h=>h.1
def ixB {R:Type}(s:List UInt8)(i:Int)(K:UInt8→Option R):Option R:=bif decide (0≤i)&&decide (i<(s.length:Int)) then s[i.toNat]?.bind K else none
theorem ixB_eq {R:Type}{s:List UInt8}{i:Nat}{c:UInt8}{K:UInt8→Option R}(h:s[i]? = some c):ixB s (i:Int) K=K c:=by
 have:=(List.getElem?_eq_some_iff.1 h).1
 unfold ixB
 rw[cond_t (by rw[decide_eq_true (by omega),decide_eq_true (by omega)];rfl),Int.toNat_natCast,h]
 rfl
def isD (c:UInt8):Bool:=decide (48≤c.toNat)&&decide (c.toNat≤57)
def digB (s:List UInt8):Bool:=s.all isD&&!(s==[])
def hDig:Hints:=⟨[],[(0,⟨[(0,false),(5,false),(6,false)],[]⟩)]⟩
def frDig (s:List UInt8)(n i:Int):St:=frame 22 [(0,(.str s,0)),(5,(.int .i64 n,0)),(6,(.int .i64 i,0))] []
noncomputable def digLoop (fu n:Nat)(st:St):Option PV:=loopF (en []) hDig fu false Tryz.f249 [1,0,1,0] 0 n st
theorem dig_raw (fu:Nat)(s:List UInt8):prun (en []) hDig fu false Tryz.f249 [.str s]=digLoop fu fu (frDig s (s.length:Int) 0):=by kernel_rfl
theorem dig_step (fu:Nat)(s:List UInt8)(n i:Int)(K:St→Option PV) :
  stepF (en []) hDig fu false Tryz.f249 [1,0,1,0] (frDig s n i) (fun st=>pnorm (hDig.loop.lookup 0) st K) =
  bif decide (i<n) then ixB s i fun v=>bif !decide ((v.toNat:Int)<48) then ixB s i fun v=>bif decide (57<(v.toNat:Int)) then some (.bool false) else K (frDig s n (IntKind.i64.wrap (i+1))) else some (.bool false)
  else some (.bool (!(s==[]))):=by kernel_rfl
theorem dig_loop (fu:Nat)(s:List UInt8)(hs:s.length≤10000):∀ (m i n:Nat),i+m=s.length→m<n→digLoop fu n (frDig s (s.length:Int) (i:Int))=some (.bool ((s.drop i).all isD&&!(s==[])))
 |m,i,0,_,h=>by omega
 |0,i,n+1,hi,hn=>by
  unfold digLoop
  rw[loopF_succ,dig_step,cond_f (decide_eq_false (by omega)),List.drop_of_length_le (by omega)]
  rfl
 |m+1,i,n+1,hi,hn=>by
  unfold digLoop
  have hc:=List.getElem?_eq_getElem (l:=s) (i:=i) (by omega)
  rw[loopF_succ,dig_step,cond_t (decide_eq_true (by omega)),ixB_eq hc,ixB_eq hc,wrapI_of (by omega) (by omega),List.drop_eq_getElem_cons (by omega),List.all_cons]
  generalize s[i]=c
  have ih:=dig_loop fu s hs m (i+1) n (by omega) (by omega)
  unfold digLoop at ih
  unfold isD
  by_cases h1:48≤c.toNat
  ·rw[cond_t (by rw[decide_eq_false (by omega)];rfl),decide_eq_true h1]
   by_cases h2:c.toNat≤57
   ·rw[cond_f (decide_eq_false (by omega)),decide_eq_true h2]
    exact ih
   ·rw[cond_t (decide_eq_true (by omega)),decide_eq_false h2];rfl
  ·rw[cond_f (by rw[decide_eq_true (by omega)];rfl),decide_eq_false h1];rfl
def p_digits:PFn:=⟨fun xs k=>match xs with|[.str s]=>bif decide (s.length≤5000) then k (.bool (digB s)) else none|_=>none,false⟩
theorem ok_digits:FOK NGd Wd 249 p_digits:=by
 refine fok wokd allOK_nil (h:=hDig) Tryz.func249 rfl (by decide) ?_ ?_
 ·intro R xs k
  simp only[p_digits]
  split
  ·exact cond_nat
  ·rfl
 ·intro xs r h
  simp only[p_digits] at h
  split at h
  ·rename_i s
   rcases hb:decide (s.length≤5000) with _|_<;>rw[hb] at h
   ·cases h
   ·simp only[cond_true,Option.some.injEq] at h
    subst h
    simp only[decide_eq_true_eq] at hb
    refine⟨10000,(dig_raw 10000 s).trans ?_⟩
    exact dig_loop 10000 s (by omega) s.length 0 10000 (by omega) (by omega)
  ·cases h
def hasM (s:List UInt8):Bool:=s.head? == some 45
def p_HasPrefix:PFn:=⟨fun xs k=>match xs with|[.str s,.str [45]]=>k (.bool (hasM s))|_=>none,false⟩
theorem hasp_raw (s:List UInt8):prun (en []) ⟨[],[]⟩ 0 false Tryz.f242 [.str s,.str [45]] =
  bif decide (1≤(s.length:Int)) then bif decide (1≤(s.length:Int)) then some (.bool ((s.take 1).drop 0==[45])) else none else some (.bool false):=by kernel_rfl
theorem ok_HasPrefix:FOK NGd Wd 242 p_HasPrefix:=by
 refine fok wokd allOK_nil (h:=⟨[],[]⟩) Tryz.func242 rfl (by decide) ?_ ?_
 ·intro R xs k
  simp only[p_HasPrefix]
  split<;>rfl
 ·intro xs r h
  simp only[p_HasPrefix] at h
  split at h
  ·rename_i s
   refine⟨0,(hasp_raw s).trans ?_⟩
   rw[← h]
   cases s with
   |nil=>rfl
   |cons c t =>
    rw[cond_t (decide_eq_true (by simp;omega)),cond_t (decide_eq_true (by simp;omega))]
    simp[hasM]
  ·cases h
def noM (s:List UInt8):List UInt8:=bif hasM s then s.drop 1 else s
def p_CutP:PFn:=⟨fun xs k=>match xs with|[.str s,.str [45]]=>k (.tuple [.str (noM s),.bool (hasM s)])|_=>none,false⟩
theorem cutp_raw (s:List UInt8):prun (en [(242,p_HasPrefix)]) ⟨[],[]⟩ 0 false Tryz.f217 [.str s,.str [45]] =
  bif !hasM s then some (.tuple [.str s,.bool false]) else bif decide (1≤(s.length:Int)) then some (.tuple [.str ((s.take s.length).drop 1),.bool true]) else none:=by kernel_rfl
theorem ok_CutPl:FOK NGd Wd 217 p_CutP:=by
 refine fok wokd (allOK_cons ok_HasPrefix allOK_nil) (h:=⟨[],[]⟩) Tryz.func217 rfl (by decide) ?_ ?_
 ·intro R xs k
  simp only[p_CutP]
  split<;>rfl
 ·intro xs r h
  simp only[p_CutP] at h
  split at h
  ·rename_i s
   refine⟨0,(cutp_raw s).trans ?_⟩
   rw[← h]
   unfold noM
   cases hm:hasM s
   ·rfl
   ·have:s≠[]:=by intro e;subst e;cases hm
    have hl:0<s.length:=List.length_pos_iff.2 this
    simp only[Bool.not_true,cond_false,cond_true]
    rw[cond_t (decide_eq_true (by omega)),List.take_length]
  ·cases h
theorem cutpo_raw (s:List UInt8):prun (en [(217,p_CutP)]) ⟨[],[]⟩ 0 false Tryz.f164 [.str s,.str [45]]=some (.tuple [.str (noM s),.bool (hasM s)]):=by kernel_rfl
theorem ok_CutP:FOK NGd Wd 164 p_CutP:=by
 refine fok wokd (allOK_cons ok_CutPl allOK_nil) (h:=⟨[],[]⟩) Tryz.func164 rfl (by decide) ?_ ?_
 ·intro R xs k
  simp only[p_CutP]
  split<;>rfl
 ·intro xs r h
  simp only[p_CutP] at h
  split at h
  ·rename_i s
   exact⟨0,(cutpo_raw s).trans h⟩
  ·cases h
def notP (c:UInt8):Bool:=!(c==46)
def cutA (s:List UInt8):List UInt8:=s.takeWhile notP
def cutR (s:List UInt8):List UInt8:=(s.dropWhile notP).drop 1
def cutB (s:List UInt8):Bool:=s.any fun c=>c==46
theorem first_ix (s:List UInt8):∀ i,firstIx 46 i s=bif cutB s then ((i+(cutA s).length:Nat):Int) else -1:=by
 induction s with
 |nil=>intro i;rfl
 |cons c s ih =>
  intro i
  unfold firstIx cutB cutA
  by_cases h:c=46
  ·subst h;simp[notP]
  ·have h1:¬ ((c.toNat:Int)=46):=by
    intro e
    apply h
    apply UInt8.toNat_inj.1
    simp only[UInt8.reduceToNat];omega
   have h2:(c==46)=false:=by simpa using h
   rw[decide_eq_false h1,cond_false,ih]
   simp only[List.any_cons,h2,Bool.false_or,List.takeWhile_cons,notP,Bool.not_false,if_true,List.length_cons]
   unfold cutB cutA notP
   cases s.any fun c=>c==46<;>simp<;>omega
def p_IndexByte:PFn:=⟨fun xs k=>match xs with|[.str s,.int .u8 c]=>bif decide (0≤c)&&decide (c≤255) then k (.int .i64 (firstIx c 0 s)) else none|_=>none,false⟩
theorem ixbyte_raw (s:List UInt8)(c:Int):prun (en [(304,p_IndexByteString)]) ⟨[],[]⟩ 0 false Tryz.f295 [.str s,.int .u8 c]=bif decide (0≤c)&&decide (c≤255) then some (.int .i64 (firstIx c 0 s)) else none:=by kernel_rfl
theorem ok_IndexByte:FOK NGd Wd 295 p_IndexByte:=by
 refine fok wokd (allOK_cons ok_IndexByteString allOK_nil) (h:=⟨[],[]⟩) Tryz.func295 rfl (by decide) ?_ ?_
 ·intro R xs k
  simp only[p_IndexByte]
  split
  ·exact cond_nat
  ·rfl
 ·intro xs r h
  simp only[p_IndexByte] at h
  split at h
  ·exact⟨0,(ixbyte_raw _ _).trans h⟩
  ·cases h
def p_Index:PFn:=⟨fun xs k=>match xs with|[.str s,.str [46]]=>k (.int .i64 (bif [46]==s then 0 else firstIx 46 0 s))|_=>none,false⟩
theorem index_raw (s:List UInt8):prun (en [(295,p_IndexByte)]) ⟨[],[]⟩ 0 false Tryz.f276 [.str s,.str [46]]=bif (false||([46]==s)) then some (.int .i64 0) else some (.int .i64 (firstIx 46 0 s)):=by kernel_rfl
theorem ok_Index:FOK NGd Wd 276 p_Index:=by
 refine fok wokd (allOK_cons ok_IndexByte allOK_nil) (h:=⟨[],[]⟩) Tryz.func276 rfl (by decide) ?_ ?_
 ·intro R xs k
  simp only[p_Index]
  split<;>rfl
 ·intro xs r h
  simp only[p_Index] at h
  split at h
  ·rename_i s
   refine⟨0,(index_raw s).trans ?_⟩
   rw[← h]
   cases [46]==s<;>rfl
  ·cases h
def p_Cut:PFn:=⟨fun xs k=>match xs with|[.str s,.str [46]]=>bif decide (s.length≤5000) then k (.tuple [.str (cutA s),.str (cutR s),.bool (cutB s)]) else none|_=>none,false⟩
theorem cut_raw (s:List UInt8)(i:Int)(hi:(bif [46]==s then 0 else firstIx 46 0 s)=i):prun (en [(276,p_Index)]) ⟨[],[]⟩ 0 false Tryz.f273 [.str s,.str [46]] =
  bif decide (0≤i) then bif decide (0≤i)&&decide (i≤(s.length:Int)) then bif decide (0≤IntKind.i64.wrap (i+1))&&decide (IntKind.i64.wrap (i+1)≤(s.length:Int)) then
   some (.tuple [.str ((s.take i.toNat).drop 0),.str ((s.take s.length).drop (IntKind.i64.wrap (i+1)).toNat),.bool true]) else none else none
  else some (.tuple [.str s,.str [],.bool false]):=by
 subst hi
 kernel_rfl
theorem cut_ix (s:List UInt8):(bif [46]==s then 0 else firstIx 46 0 s)=bif cutB s then (((cutA s).length:Nat):Int) else -1:=by
 by_cases h:[46]=s
 ·subst h;rfl
 ·have:([46]==s)=false:=by simpa using h
  rw[this,cond_false,first_ix]
  simp
theorem cut_none {s:List UInt8}(h:cutB s=false):cutA s=s∧cutR s=[]:=by
 induction s with
 |nil=>exact⟨rfl,rfl⟩
 |cons c s ih =>
  unfold cutB at h
  simp only[List.any_cons,Bool.or_eq_false_iff] at h
  obtain⟨i1,i2⟩:=ih h.2
  have hn:notP c=true:=by unfold notP;rw[h.1];rfl
  unfold cutA cutR at *
  rw[List.takeWhile_cons,List.dropWhile_cons,hn]
  simp only[if_true,i1,i2]
  exact⟨trivial,trivial⟩
theorem cut_some {s:List UInt8}(h:cutB s=true):s=cutA s++46::cutR s∧(cutA s).length<s.length:=by
 induction s with
 |nil=>cases h
 |cons c s ih =>
  unfold cutA cutR
  rw[List.takeWhile_cons,List.dropWhile_cons]
  by_cases hc:c=46
  ·subst hc
   simp[notP]
  ·have hn:notP c=true:=by unfold notP;simpa using hc
   have h2:cutB s=true:=by
    unfold cutB at h ⊢
    simp only[List.any_cons,Bool.or_eq_true,beq_iff_eq] at h
    rcases h with h|h
    ·exact (hc h).elim
    ·exact h
   obtain⟨i1,i2⟩:=ih h2
   rw[hn]
   simp only[if_true,List.cons_append,List.length_cons]
   unfold cutA cutR at i1
   unfold cutA at i2
   exact⟨congrArg (c :: ·) i1,by omega⟩
theorem ok_Cutl:FOK NGd Wd 273 p_Cut:=by
 refine fok wokd (allOK_cons ok_Index allOK_nil) (h:=⟨[],[]⟩) Tryz.func273 rfl (by decide) ?_ ?_
 ·intro R xs k
  simp only[p_Cut]
  split
  ·exact cond_nat
  ·rfl
 ·intro xs r h
  simp only[p_Cut] at h
  split at h
  ·rename_i s
   rcases hb:decide (s.length≤5000) with _|_<;>rw[hb] at h
   ·cases h
   ·simp only[cond_true,Option.some.injEq] at h
    subst h
    simp only[decide_eq_true_eq] at hb
    refine⟨0,(cut_raw s _ (cut_ix s)).trans ?_⟩
    cases hc:cutB s
    ·obtain⟨e1,e2⟩:=cut_none hc
     rw[e1,e2];rfl
    ·obtain⟨e1,e2⟩:=cut_some hc
     simp only[cond_true]
     have hw:IntKind.i64.wrap (((cutA s).length:Int)+1)=((cutA s).length:Int)+1:=wrapI_of (by omega) (by omega)
     rw[cond_t (decide_eq_true (by omega)),cond_t (by rw[decide_eq_true (by omega),decide_eq_true (by omega)];rfl)]
     simp only[hw]
     rw[cond_t (by rw[decide_eq_true (by omega),decide_eq_true (by omega)];rfl),List.take_length,List.drop_zero,Int.toNat_natCast,show ((((cutA s).length:Nat):Int)+1).toNat=(cutA s).length+1 by omega]
     have t1:s.take (cutA s).length=cutA s:=by
      conv=>lhs;arg 2;rw[e1]
      exact List.take_left
     have t2:s.drop ((cutA s).length+1)=cutR s:=by
      conv=>lhs;arg 2;rw[e1]
      rw[show cutA s++46::cutR s=(cutA s++[46])++cutR s by simp]
      exact List.drop_left' (by simp)
     rw[t1,t2]
  ·cases h
theorem cuto_raw (s:List UInt8):prun (en [(273,p_Cut)]) ⟨[],[]⟩ 0 false Tryz.f248 [.str s,.str [46]]=bif decide (s.length≤5000) then some (.tuple [.str (cutA s),.str (cutR s),.bool (cutB s)]) else none:=by kernel_rfl
theorem ok_Cut:FOK NGd Wd 248 p_Cut:=by
 refine fok wokd (allOK_cons ok_Cutl allOK_nil) (h:=⟨[],[]⟩) Tryz.func248 rfl (by decide) ?_ ?_
 ·intro R xs k
  simp only[p_Cut]
  split
  ·exact cond_nat
  ·rfl
 ·intro xs r h
  simp only[p_Cut] at h
  split at h
  ·exact⟨0,(cuto_raw _).trans h⟩
  ·cases h
def atoK {R:Type}(s:List UInt8)(A:Int→Option R)(B:Option R)(C:Int→Option R):Option R :=
 match Lib.atoiAll s with
 | .ok v=>A v
 | .range=>C (Lib.atoiSat s)
 |_=>B
def p_Atoi:PFn:=⟨fun xs k=>match xs with|[.str s]=>bif decide (s.length≤10000) then atoK s (fun v=>k (.tuple [.int .i64 v,.nilIface])) (k (.tuple [.int .i64 0,.iface 284 .nptr])) (fun v=>k (.tuple [.int .i64 v,.iface 284 .nptr])) else none|_=>none,false⟩
theorem ok_Atoi:FOK NGe We 250 p_Atoi:=by
 refine fok_calls Tryz.func250 (by kernel_rfl) (by decide) ?_ rfl ?_
 ·intro R xs k
  simp only[p_Atoi]
  split
  ·rename_i s
   unfold atoK
   cases decide (s.length≤10000)
   ·rfl
   ·simp only[cond_true]
    cases Lib.atoiAll s<;>rfl
  ·rfl
 ·intro xs r M vs hW h hr
  simp only[p_Atoi] at h
  split at h
  ·rename_i s
   rcases hb:decide (s.length≤10000) with _|_<;>rw[hb] at h
   ·cases h
   ·simp only[cond_true] at h
    simp only[decide_eq_true_eq] at hb
    obtain⟨v,rfl,h1⟩:=relT1 hr
    simp only[RelD] at h1
    subst h1
    have hsz:(ByteArray.mk s.toArray).size≤10000:=by show s.toArray.size≤10000;simpa using hb
    obtain⟨_,⟨t1,q1,e1⟩,⟨t2,q2,e2⟩⟩:=hW
    unfold atoK at h
    cases ha:Lib.atoiAll s<;>rw[ha] at h<;>dsimp only at h
    ·rename_i n
     simp only[Option.some.injEq] at h
     subst h
     refine (Any.strconv_Atoi_ok Tryz.laysC172 ⟨s.toArray⟩ (by omega) n (by simpa using ha) M.w).mono ?_
     rintro e w' ⟨rfl,hw⟩
     refine⟨_,rfl,?_,fun U' _=>?_⟩
     ·rcases hw with rfl|⟨t,rfl⟩
      ·exact Below.refl _ _
      ·exact Go.Joins.below_bytesWorld _ _ _ _ (Nat.le_refl _)
     ·simp only[RelD,RelT]
      exact⟨[_,_],rfl,_,_,rfl,rfl,_,_,rfl,rfl,rfl⟩
    ·simp only[Option.some.injEq] at h
     subst h
     refine (Any.strconv_Atoi_syntax_var Tryz.laysC172 ⟨s.toArray⟩ (by omega) (by simpa using ha) t1 q1 M.w e1).mono ?_
     rintro e w' ⟨N,rfl,_,_,hbl⟩
     refine⟨_,rfl,hbl,fun U' _=>?_⟩
     simp only[RelD,RelT]
     exact⟨[_,_],rfl,_,_,rfl,rfl,_,_,rfl,⟨_,rfl,_,rfl⟩,rfl⟩
    ·simp only[Option.some.injEq] at h
     subst h
     refine (Any.strconv_Atoi_range_var Tryz.laysC172 ⟨s.toArray⟩ (by omega) (by simpa using ha) t2 q2 M.w e2).mono ?_
     rintro e w' ⟨N,rfl,_,_,hbl⟩
     refine⟨_,rfl,hbl,fun U' _=>?_⟩
     simp only[RelD,RelT]
     exact⟨[_,_],rfl,_,_,rfl,rfl,_,_,rfl,⟨_,rfl,_,rfl⟩,rfl⟩
  ·cases h
end Go.Proofs.YtkpfigikffphdaaGreatDoor
namespace Go.Proofs.YtkpfigikffphdaaGreatDoor
open Go.RowKit
def vacc (a:Nat)(l:List UInt8):Nat:=l.foldl (fun a c=>a * 10+(c.toNat-48)) a
def digV (l:List UInt8):Nat:=vacc 0 l
theorem vacc_ge:∀ (l:List UInt8) (a:Nat),a≤vacc a l
 |[],a=>Nat.le_refl _
 |c::l,a=>Nat.le_trans (by omega) (vacc_ge l (a * 10+(c.toNat-48)))
theorem pu10:∀ (l:List UInt8) (a:Nat),l.all isD=true→a<18446744073709551616→Lib.parseUint10 a l=if vacc a l<18446744073709551616 then .ok (vacc a l) else .range
 |[],a,_,h=>by
  show Lib.NumEnd.ok a=if a<_ then _ else _
  rw[if_pos h];rfl
 |c::l,a,hd,h=>by
  rw[List.all_cons,Bool.and_eq_true] at hd
  have hc:=hd.1
  unfold isD at hc
  simp only[Bool.and_eq_true,decide_eq_true_eq] at hc
  have e:vacc a (c::l)=vacc (a * 10+(c.toNat-48)) l:=rfl
  have hge:=vacc_ge l (a * 10+(c.toNat-48))
  unfold Lib.parseUint10
  rw[if_pos hc,e]
  by_cases h1:1844674407370955162≤a
  ·rw[if_pos h1,if_neg (by omega)]
  ·rw[if_neg h1]
   by_cases h2:18446744073709551616≤a * 10+(c.toNat-48)
   ·rw[if_pos h2,if_neg (by omega)]
   ·rw[if_neg h2]
    exact pu10 l _ hd.2 (by omega)
theorem atoi_digits {d:List UInt8}{m:Bool}(hd:d.all isD=true)(hne:d≠[]):Lib.atoiAll ((bif m then [45] else [])++d)=bif over64 (sgn (digV d) m) then .range else .ok (sgn (digV d) m):=by
 have hp:Lib.parseMag d=if digV d<18446744073709551616 then .ok (digV d) else .range:=by
  unfold Lib.parseMag
  rw[if_neg hne]
  exact pu10 d 0 hd (by decide)
 cases m
 ·obtain⟨c,r,rfl⟩:=List.exists_cons_of_ne_nil hne
  rw[List.all_cons,Bool.and_eq_true] at hd
  have hc:=hd.1
  unfold isD at hc
  simp only[Bool.and_eq_true,decide_eq_true_eq] at hc
  rw[cond_false,List.nil_append,Lib.atoiAll_plain c r (by omega) (by omega),hp]
  generalize digV (c::r)=N
  unfold sgn over64
  rw[cond_false,decide_eq_false (show ¬ (N:Int) < -9223372036854775808 by omega),Bool.false_or]
  by_cases h:N<18446744073709551616
  ·rw[if_pos h]
   unfold Lib.signless
   by_cases k:9223372036854775807<(N:Int)
   ·rw[decide_eq_true k]
    simp only[cond_true]
    rw[if_pos (by omega)]
   ·rw[decide_eq_false k]
    simp only[cond_false]
    rw[if_neg (by omega)]
  ·rw[if_neg h,decide_eq_true (by omega)];rfl
 ·rw[cond_true,List.singleton_append,Lib.atoiAll_minus,hp]
  generalize digV d=N
  unfold sgn over64
  rw[cond_true,decide_eq_false (show ¬ 9223372036854775807 < -(N:Int) by omega),Bool.or_false]
  by_cases h:N<18446744073709551616
  ·rw[if_pos h]
   unfold Lib.signed
   by_cases k:-(N:Int) < -9223372036854775808
   ·rw[decide_eq_true k]
    simp only[cond_true]
    rw[if_pos (by omega)]
   ·rw[decide_eq_false k]
    simp only[cond_false]
    rw[if_neg (by omega)]
  ·rw[if_neg h,decide_eq_true (by omega)];rfl
def badP (w r:List UInt8)(pt:Bool):Bool:=!digB w||(decide (1<w.length)&&(w.head? == some 48))||(pt&&(!digB r||decide (6<r.length)))
def valP (w r:List UInt8)(pt m:Bool):Option (Int×Nat) :=
 bif badP w r pt then none else bif over64 (sgn (digV (w++r)) m)||(sgn (digV (w++r)) m==0&&m) then none else some (sgn (digV (w++r)) m,r.length)
def parseP (s:List UInt8):Option (Int×Nat):=valP (cutA (noM s)) (cutR (noM s)) (cutB (noM s)) (hasM s)
def resP (o:Option (Int×Nat)):PV:=.tuple [.int .i64 (o.elim 0 fun p=>p.1),.int .i64 (o.elim 0 fun p=>(p.2:Int)),.bool o.isSome]
def failP:Option PV:=some (.tuple [.int .i64 0,.int .i64 0,.bool false])
def tailC (w r:List UInt8)(m:Bool)(pre:List UInt8):Option PV :=
 bif decide (pre.length+w.length≤9223372036854775807) then bif decide ((pre++w).length+r.length≤9223372036854775807) then bif decide ((pre++w++r).length≤10000) then
  atoK (pre++w++r) (fun n=>bif n==0&&m then failP else some (.tuple [.int .i64 n,.int .i64 (r.length:Int),.bool true])) failP (fun _=>failP)
 else none else none else none
def tailP (w r:List UInt8)(m:Bool):Option PV:=bif m then tailC w r m [45] else tailC w r m []
def digO {R:Type}(s:List UInt8)(k:Bool→Option R):Option R:=bif decide (s.length≤5000) then k (digB s) else none
def skelP {R:Type}(Q L pt X:Bool)(I:(Bool→Option R)→Option R)(D:(Bool→Option R)→Option R)(F T:Option R):Option R :=
 bif !!Q&&L then I fun z=>bif !z&&pt then D fun d=>bif !d||X then F else T else bif !z&&pt then none else bif !z&&pt then none else bif !z&&pt then none else bif z||(pt&&false) then F else T
 else bif !!Q&&L then none else
  bif !(!Q||(L&&false))&&pt then D fun d=>bif !d||X then F else T else
  bif !(!Q||(L&&false))&&pt then none else bif !(!Q||(L&&false))&&pt then none else bif !(!Q||(L&&false))&&pt then none else
  bif !Q||(L&&false)||(pt&&false) then F else T
theorem skelP_eq {R:Type}{Q L pt X z d:Bool}{I D:(Bool→Option R)→Option R}{F T:Option R}(hI:L=true→∀ K,I K=K z)(hD:∀ K,D K=K d):skelP Q L pt X I D F T=bif !Q||(L&&z)||(pt&&(!d||X)) then F else T:=by
 unfold skelP
 simp only[hD]
 cases L
 ·cases Q<;>cases pt<;>cases d<;>cases X<;>rfl
 ·simp only[hI rfl]
  cases Q<;>cases pt<;>cases d<;>cases X<;>cases z<;>rfl
def parseBody (b:List UInt8)(m:Bool):Option PV :=
 bif decide (b.length≤5000) then
  digO (cutA b) fun Q=>skelP Q (decide (1<((cutA b).length:Int))) (cutB b) (decide (6<((cutR b).length:Int))) (fun K=>ixB (cutA b) 0 fun v=>K ((v.toNat:Int)==48)) (digO (cutR b)) failP (tailP (cutA b) (cutR b) m)
 else none
noncomputable def lParse:List (FuncId×PFn):=[(164,p_CutP),(248,p_Cut),(249,p_digits),(250,p_Atoi)]
theorem ok_lParse:AllOK NGe We lParse:=allOK_cons (fok_mono we_d ok_CutP) (allOK_cons (fok_mono we_d ok_Cut) (allOK_cons (fok_mono we_d ok_digits) (allOK_cons ok_Atoi allOK_nil)))
theorem parse_raw (s:List UInt8):prun (en lParse) ⟨[],[]⟩ 0 false Tryz.f220 [.str s]=parseBody (noM s) (hasM s):=by kernel_rfl
theorem noM_len (s:List UInt8):(noM s).length≤s.length:=by unfold noM;cases hasM s<;>simp
theorem cut_len (s:List UInt8):(cutA s).length+(cutR s).length≤s.length:=by
 cases h:cutB s
 ·obtain⟨e1,e2⟩:=cut_none h
  rw[e1,e2];simp
 ·have:=congrArg List.length (cut_some h).1
  simp only[List.length_append,List.length_cons] at this
  omega
theorem digB_iff {s:List UInt8}:digB s=true↔s.all isD=true∧s≠[]:=by unfold digB;simp
theorem tail_eq {w r:List UInt8}{m:Bool}(hw:digB w=true)(hr:r.all isD=true)(hl:w.length+r.length≤5000) :
  tailP w r m=some (resP (bif over64 (sgn (digV (w++r)) m)||(sgn (digV (w++r)) m==0&&m) then none else some (sgn (digV (w++r)) m,r.length))):=by
 rw[digB_iff] at hw
 have hd:(w++r).all isD=true:=by rw[List.all_append,hw.1,hr];rfl
 have hne:w++r≠[]:=by simp[hw.2]
 have key:tailC w r m (bif m then [45] else [])=some (resP (bif over64 (sgn (digV (w++r)) m)||(sgn (digV (w++r)) m==0&&m) then none else some (sgn (digV (w++r)) m,r.length))):=by
  have hpl:(bif m then [45] else []:List UInt8).length≤1:=by cases m<;>simp
  unfold tailC
  rw[cond_t (decide_eq_true (by omega)),cond_t (decide_eq_true (by simp only[List.length_append];omega)),cond_t (decide_eq_true (by simp only[List.length_append];omega)),List.append_assoc]
  unfold atoK
  rw[atoi_digits hd hne]
  cases ho:over64 (sgn (digV (w++r)) m)
  ·simp only[cond_false,Bool.false_or]
   cases hz:sgn (digV (w++r)) m==0&&m
   ·rfl
   ·rfl
  ·rfl
 unfold tailP
 cases m
 ·exact key
 ·exact key
theorem ixB_head {R:Type}{w:List UInt8}{K:UInt8→Option R}(c:UInt8)(t:List UInt8)(h:w=c::t):ixB w 0 K=K c:=by
 subst h
 exact ixB_eq (i:=0) rfl
theorem parse_body {s:List UInt8}(hs:s.length≤4000):parseBody (noM s) (hasM s)=some (resP (parseP s)):=by
 have h1:=noM_len s
 have h2:=cut_len (noM s)
 unfold parseBody parseP valP
 generalize noM s=b at *
 have hz:decide (1<((cutA b).length:Int))=true→∀ (K:Bool→Option PV),(ixB (cutA b) 0 fun v=>K ((v.toNat:Int)==48))=K ((cutA b).head? == some 48):=by
  intro hL K
  simp only[decide_eq_true_eq] at hL
  obtain⟨c,t,e⟩:=List.exists_cons_of_ne_nil (show cutA b≠[] by intro e;rw[e] at hL;simp at hL)
  rw[ixB_head c t e,e]
  congr 1
  simp only[List.head?_cons]
  rw[Bool.eq_iff_iff]
  simp only[beq_iff_eq,Option.some.injEq]
  constructor
  ·intro k;apply UInt8.toNat_inj.1;simp only[UInt8.reduceToNat];omega
  ·intro k;subst k;rfl
 have hD:∀ (x:List UInt8),x.length≤5000→∀ (K:Bool→Option PV),digO x K=K (digB x):=by
  intro x hx K
  unfold digO
  exact cond_t (decide_eq_true hx)
 rw[cond_t (decide_eq_true (by omega)),hD _ (by omega),skelP_eq hz (hD (cutR b) (by omega))]
 have eL:decide (1<((cutA b).length:Int))=decide (1<(cutA b).length):=by congr 1;simp only[eq_iff_iff];omega
 have eX:decide (6<((cutR b).length:Int))=decide (6<(cutR b).length):=by congr 1;simp only[eq_iff_iff];omega
 rw[eL,eX]
 have eb:(!digB (cutA b)||decide (1<(cutA b).length)&&(cutA b).head? == some 48||cutB b&&(!digB (cutR b)||decide (6<(cutR b).length)))=badP (cutA b) (cutR b) (cutB b):=rfl
 rw[eb]
 cases hb:badP (cutA b) (cutR b) (cutB b)
 ·simp only[cond_false]
  unfold badP at hb
  simp only[Bool.or_eq_false_iff] at hb
  have hw:digB (cutA b)=true:=by have:=hb.1.1;simpa using this
  have hr:(cutR b).all isD=true:=by
   cases hc:cutB b
   ·rw[(cut_none hc).2];rfl
   ·have:=hb.2
    rw[hc,Bool.true_and,Bool.or_eq_false_iff] at this
    have h3:digB (cutR b)=true:=by simpa using this.1
    exact (digB_iff.1 h3).1
  exact tail_eq hw hr (by omega)
 ·rfl
def p_Parse:PFn:=⟨fun xs k=>match xs with|[.str s]=>bif decide (s.length≤4000) then k (resP (parseP s)) else none|_=>none,false⟩
theorem ok_Parse:FOK NGe We 220 p_Parse:=by
 refine fok woke ok_lParse (h:=⟨[],[]⟩) Tryz.func220 rfl (by decide) ?_ ?_
 ·intro R xs k
  simp only[p_Parse]
  split
  ·exact cond_nat
  ·rfl
 ·intro xs r h
  simp only[p_Parse] at h
  split at h
  ·rename_i s
   rcases hb:decide (s.length≤4000) with _|_<;>rw[hb] at h
   ·cases h
   ·simp only[decide_eq_true_eq] at hb
    exact⟨0,(parse_raw s).trans ((parse_body hb).trans h)⟩
  ·cases h
end Go.Proofs.YtkpfigikffphdaaGreatDoor
namespace Go.Proofs.YtkpfigikffphdaaGreatDoor
open Go.RowKit
def hRP:Hints:=⟨[],[(0,⟨[(0,false),(5,false),(6,false),(7,false),(8,false),(9,false)],[]⟩)]⟩
noncomputable def lRP:List (FuncId×PFn):=[(108,p_trim),(107,p_Int)]
theorem ok_lRP:AllOK NGd Wd lRP:=allOK_cons ok_trim (allOK_cons ok_Int allOK_nil)
def frP (s:List UInt8)(i:Int)(m:Bool)(nl:Option Bool)(l:Nat)(c:List PV)(pt f:Int):St :=
 frame 111 [(0,(.str s,0)),(5,(.int .i64 i,0)),(6,(.bool m,0)),(7,(.sl nl 1 l c,0)),(8,(.int .i64 pt,0)),(9,(.int .i64 f,0))] []
noncomputable def rpLoop (fu n:Nat)(st:St):Option PV:=loopF (en lRP) hRP fu false Tryz.f57 [1,1,1,1,1,1,1,0,0] 0 n st
theorem rp_raw (fu:Nat)(s:List UInt8):prun (en lRP) hRP fu false Tryz.f57 [.str s] =
  bif !(s==[]) then ixB s 0 fun v=>bif (v.toNat:Int)==45 then rpLoop fu fu (frP s 1 ((v.toNat:Int)==45) (some true) 0 [] (-1) 1) else rpLoop fu fu (frP s 0 ((v.toNat:Int)==45) (some true) 0 [] (-1) 0)
  else rpLoop fu fu (frP s 0 false (some true) 0 [] (-1) 0):=by kernel_rfl
def intO {R:Type}(l0:Nat)(c0:List PV)(m:Bool)(k:Int→Bool→Option R):Option R:=(decN l0 c0).bind fun X=>bif decide (dlen X≤5000) then k (ansV (sgn X m)) (!over64 (sgn X m)) else none
def fin4 (m:Bool)(l:Nat)(c:List PV)(sc:Int):Option PV :=
 cutO l c fun N=>intO (dlen N) (cellsN N) m fun V B=>bif !B||(V==0&&m) then failP else some (.tuple [.int .i64 V,.int .i64 sc,.bool true])
def fin3 (s:List UInt8)(m:Bool)(l:Nat)(c:List PV)(f wh sc:Int):Option PV :=
 bif !(wh==f)&&decide (IntKind.i64.wrap (f+1)<wh) then ixB s f fun v=>bif (v.toNat:Int)==48 then failP else fin4 m l c sc
 else bif !(wh==f)&&decide (IntKind.i64.wrap (f+1)<wh) then none else bif wh==f||(decide (IntKind.i64.wrap (f+1)<wh)&&false) then failP else fin4 m l c sc
def fin2 (s:List UInt8)(m:Bool)(l:Nat)(c:List PV)(pt f wh:Int):Option PV :=
 bif decide (0≤pt) then bif IntKind.i64.wrap (IntKind.i64.wrap ((s.length:Int)-pt)-1)==0||decide (6<IntKind.i64.wrap (IntKind.i64.wrap ((s.length:Int)-pt)-1)) then failP else fin3 s m l c f wh (IntKind.i64.wrap (IntKind.i64.wrap ((s.length:Int)-pt)-1))
 else fin3 s m l c f wh 0
def finP (s:List UInt8)(m:Bool)(l:Nat)(c:List PV)(pt f i:Int):Option PV:=bif decide (0≤pt) then fin2 s m l c pt f pt else fin2 s m l c pt f i
theorem rp_step (fu:Nat)(s:List UInt8)(i:Int)(m:Bool)(nl:Option Bool)(l:Nat)(c:List PV)(pt f:Int)(K:St→Option PV) :
  stepF (en lRP) hRP fu false Tryz.f57 [1,1,1,1,1,1,1,0,0] (frP s i m nl l c pt f) (fun st=>pnorm (hRP.loop.lookup 0) st K) =
  bif decide (i<(s.length:Int)) then ixB s i fun v=>bif (v.toNat:Int)==46&&decide (pt<0)&&decide (f<i) then K (frP s (IntKind.i64.wrap (i+1)) m nl l c i f) else
   ixB s i fun v=>bif !decide ((v.toNat:Int)<48) then ixB s i fun v=>bif decide (57<(v.toNat:Int)) then failP else ixB s i fun v=>room 1 l (K (frP s (IntKind.i64.wrap (i+1)) m ((some false).map (· && (l==0))) (1+l) (.int .i64 (IntKind.i64.wrap (IntKind.u8.wrap ((v.toNat:Int)-48)))::c) pt f)) else failP
  else finP s m l c pt f i:=by kernel_rfl
def ptI:Option Nat→Int
 |none=>-1
 |some p=>p
def scan (f:Nat):List UInt8→Nat→Option Nat→List Nat→Option (Option Nat×List Nat)
 |[],_,pt,ds=>some (pt,ds)
 |c::l,i,pt,ds=>bif c==46&&pt.isNone&&decide (f<i) then scan f l (i+1) (some i) ds else bif isD c then scan f l (i+1) pt ((c.toNat-48)::ds) else none
theorem rp_loop (fu:Nat)(s:List UInt8)(hs:s.length≤4000)(m:Bool)(f:Nat):∀ (k i n:Nat) (nl:Option Bool) (pt:Option Nat) (ds:List Nat),i+k=s.length→k<n→ds.length≤i →
  rpLoop fu n (frP s (i:Int) m nl ds.length (cellsD ds) (ptI pt) (f:Int))=match scan f (s.drop i) i pt ds with|none=>failP|some (pt',ds')=>finP s m ds'.length (cellsD ds') (ptI pt') (f:Int) (s.length:Int)
 |k,i,0,_,_,_,_,h,_=>by omega
 |0,i,n+1,nl,pt,ds,hi,hn,hd=>by
  unfold rpLoop
  rw[loopF_succ,rp_step,cond_f (decide_eq_false (by omega)),List.drop_of_length_le (by omega),show i=s.length by omega]
  rfl
 |k+1, i, n+1,nl,pt,ds,hi,hn,hd=>by
  unfold rpLoop
  have hc:=List.getElem?_eq_getElem (l:=s) (i:=i) (by omega)
  rw[loopF_succ,rp_step,cond_t (decide_eq_true (by omega)),ixB_eq hc,ixB_eq hc,ixB_eq hc,ixB_eq hc,wrapI_of (x:=(i:Int)+1) (by omega) (by omega),List.drop_eq_getElem_cons (by omega),scan,room_eq (by omega)]
  generalize s[i]=c
  have ec:((c.toNat:Int)==46)=(c==46):=by
   rw[Bool.eq_iff_iff]
   simp only[beq_iff_eq]
   constructor
   ·intro e;apply UInt8.toNat_inj.1;simp only[UInt8.reduceToNat];omega
   ·intro e;subst e;rfl
  have ep:decide (ptI pt<0)=pt.isNone:=by cases pt with
   |none=>rfl
   |some p=>exact decide_eq_false (show ¬ ((p:Nat):Int)<0 by omega)
  have ef:decide ((f:Int)<(i:Int))=decide (f<i):=by congr 1;simp only[eq_iff_iff];omega
  rw[ec,ep,ef]
  cases hx:c==46&&pt.isNone&&decide (f<i)
  ·simp only[cond_false]
   by_cases h1:48≤c.toNat
   ·rw[cond_t (by rw[decide_eq_false (by omega)];rfl)]
    by_cases h2:c.toNat≤57
    ·have hD:isD c=true:=by unfold isD;rw[decide_eq_true h1,decide_eq_true h2];rfl
     rw[cond_f (decide_eq_false (by omega)),hD,cond_true]
     have ih:=rp_loop fu s hs m f k (i+1) n ((some false).map (· && (ds.length==0))) pt ((c.toNat-48)::ds) (by omega) (by omega) (by simp;omega)
     unfold rpLoop at ih
     rw[← ih]
     have e1:IntKind.i64.wrap (IntKind.u8.wrap ((c.toNat:Int)-48))=((c.toNat-48:Nat):Int):=by
      have:IntKind.u8.wrap ((c.toNat:Int)-48)=(c.toNat:Int)-48:=by
       have e8:∀ x:Int,IntKind.u8.wrap x=x%256:=fun x=>by simp only[IntKind.wrap];rfl
       rw[e8];omega
      rw[this,wrapI_of (by omega) (by omega)];omega
     rw[e1,show 1+ds.length=((c.toNat-48)::ds).length by simp;omega]
     rfl
    ·have hD:isD c=false:=by unfold isD;rw[decide_eq_false h2,Bool.and_false]
     rw[cond_t (decide_eq_true (by omega)),hD,cond_false]
   ·have hD:isD c=false:=by unfold isD;rw[decide_eq_false h1];rfl
    rw[cond_f (by rw[decide_eq_true (by omega)];rfl),hD,cond_false]
  ·simp only[cond_true]
   have ih:=rp_loop fu s hs m f k (i+1) n nl (some i) ds (by omega) (by omega) (by omega)
   unfold rpLoop at ih
   exact ih
def pushD (w:List UInt8)(ds:List Nat):List Nat:=w.foldl (fun ds c=>(c.toNat-48)::ds) ds
def natL:List Nat→Nat
 |[]=>0
 |d::l=>d+10 * natL l
theorem push_len:∀ (w:List UInt8) (ds:List Nat),(pushD w ds).length=ds.length+w.length
 |[],ds=>by simp[pushD]
 |c::w,ds=>by
  have:=push_len w ((c.toNat-48)::ds)
  simp only[pushD,List.foldl_cons,List.length_cons] at this ⊢
  omega
theorem push_nat:∀ (w:List UInt8) (ds:List Nat),natL (pushD w ds)=vacc (natL ds) w
 |[],ds=>rfl
 |c::w,ds=>by
  have:=push_nat w ((c.toNat-48)::ds)
  simp only[pushD,vacc,List.foldl_cons,natL] at this ⊢
  rw[this,show c.toNat-48+10 * natL ds=natL ds * 10+(c.toNat-48) by omega]
theorem push_lt:∀ (w:List UInt8) (ds:List Nat),w.all isD=true→(∀ d∈ds,d<10)→∀ d∈pushD w ds,d<10
 |[],ds,_,h=>h
 |c::w,ds,hw,h=>by
  rw[List.all_cons,Bool.and_eq_true] at hw
  have hc:=hw.1
  unfold isD at hc
  simp only[Bool.and_eq_true,decide_eq_true_eq] at hc
  refine push_lt w ((c.toNat-48)::ds) hw.2 ?_
  intro d hd
  rcases List.mem_cons.1 hd with rfl|hd
  ·omega
  ·exact h d hd
theorem push_app (w r:List UInt8)(ds:List Nat):pushD (w++r) ds=pushD r (pushD w ds):=by simp[pushD]
theorem natC_L:∀ {ds:List Nat},(∀ d∈ds,d<10)→natC (cellsD ds)=some (natL ds)
 |[],_=>rfl
 |d::ds,h=>by
  have hd:=h d (List.mem_cons_self ..)
  show (if 0≤(d:Int)∧(d:Int)<10 then (natC (cellsD ds)).map fun n=>(d:Int).toNat+10 * n else none)=_
  rw[if_pos (by omega),natC_L (fun x hx=>h x (List.mem_cons_of_mem _ hx))]
  rfl
theorem isD_ne {c:UInt8}(h:isD c=true):(c==46)=false:=by
 unfold isD at h
 simp only[Bool.and_eq_true,decide_eq_true_eq] at h
 rw[beq_eq_false_iff_ne]
 intro e
 subst e
 simp at h
theorem scan_digits (f:Nat):∀ (w t:List UInt8) (i:Nat) (pt:Option Nat) (ds:List Nat),w.all isD=true→scan f (w++t) i pt ds=scan f t (i+w.length) pt (pushD w ds)
 |[],t,i,pt,ds,_=>rfl
 |c::w,t,i,pt,ds,h=>by
  rw[List.all_cons,Bool.and_eq_true] at h
  rw[List.cons_append,scan,isD_ne h.1,h.1]
  simp only[Bool.false_and,cond_false,cond_true]
  rw[scan_digits f w t (i+1) pt _ h.2,List.length_cons,show i+1+w.length=i+(w.length+1) by omega]
  rfl
theorem scan_bad (f:Nat):∀ (w t:List UInt8) (i:Nat) (pt:Option Nat) (ds:List Nat),w.all isD=false→(pt.isSome=true∨cutB w=false)→scan f (w++t) i pt ds=none
 |[],t,i,pt,ds,h,_=>by cases h
 |c::w,t,i,pt,ds,h,hp=>by
  rw[List.cons_append,scan]
  have h46:(c==46&&pt.isNone&&decide (f<i))=false:=by
   rcases hp with hp|hp
   ·cases pt with
    |none=>cases hp
    |some p=>simp
   ·unfold cutB at hp
    simp only[List.any_cons,Bool.or_eq_false_iff] at hp
    rw[hp.1];rfl
  rw[h46,cond_false]
  cases hc:isD c
  ·rfl
  ·rw[cond_true]
   rw[List.all_cons,hc,Bool.true_and] at h
   refine scan_bad f w t (i+1) pt _ h ?_
   rcases hp with hp|hp
   ·exact .inl hp
   ·unfold cutB at hp ⊢
    simp only[List.any_cons,Bool.or_eq_false_iff] at hp
    exact .inr hp.2
theorem cutA_no (s:List UInt8):cutB (cutA s)=false:=by
 unfold cutB cutA
 rw[List.any_eq_false]
 intro c hc
 have:=List.all_eq_true.1 (List.all_takeWhile (p:=notP) (l:=s)) c hc
 unfold notP at this
 simpa using this
theorem cutO_L {R:Type}{ds:List Nat}{k:Nat→Option R}(h:∀ d∈ds,d<10)(hl:ds.length≤6000):cutO ds.length (cellsD ds) k=k (natL ds):=by
 unfold cutO
 rw[natC_L h]
 exact cond_t (by simp[cellsD,hl])
theorem natL_dlen {ds:List Nat}(h:∀ d∈ds,d<10):dlen (natL ds)≤ds.length:=by
 have:=(natC_inv (natC_L h)).2
 rw[show (cellsD ds).length=ds.length by simp[cellsD]] at this
 exact (dlen_le _ _).2 this
def valF (N:Nat)(m:Bool)(sc:Int):Option PV:=bif over64 (sgn N m)||(sgn N m==0&&m) then failP else some (.tuple [.int .i64 (sgn N m),.int .i64 sc,.bool true])
theorem fin4_eq {ds:List Nat}{m:Bool}{sc:Int}(h:∀ d∈ds,d<10)(hl:ds.length≤5000):fin4 m ds.length (cellsD ds) sc=valF (natL ds) m sc:=by
 have:=natL_dlen h
 unfold fin4 valF
 rw[cutO_L h (by omega)]
 unfold intO
 rw[decN_big]
 simp only[Option.bind_some]
 rw[cond_t (decide_eq_true (by omega)),Bool.not_not]
 unfold ansV
 cases over64 (sgn (natL ds) m)<;>rfl
theorem fin3_eq {s:List UInt8}{ds:List Nat}{m:Bool}{f wh:Nat}{sc:Int}(h:∀ d∈ds,d<10)(hl:ds.length≤5000)(hf:f≤1)(hw:f≤wh)(hw2:wh≤s.length)(hs:s.length≤4000) :
  fin3 s m ds.length (cellsD ds) (f:Int) (wh:Int) sc=bif decide (wh=f)||(decide (f+1<wh)&&(s[f]? == some 48)) then failP else valF (natL ds) m sc:=by
 unfold fin3
 rw[fin4_eq h hl,wrapI_of (by omega) (by omega)]
 by_cases e:wh=f
 ·subst e
  rw[cond_f (by simp),cond_f (by simp),cond_t (by simp),decide_eq_true rfl]
  rfl
 ·have e1:((wh:Int)==(f:Int))=false:=by rw[beq_eq_false_iff_ne];omega
  rw[e1,decide_eq_false e]
  by_cases k:f+1<wh
  ·have hc:=List.getElem?_eq_getElem (l:=s) (i:=f) (by omega)
   rw[cond_t (by rw[decide_eq_true (by omega)];rfl),ixB_eq hc,hc,decide_eq_true k]
   generalize s[f]=c
   have e2:((c.toNat:Int)==48)=(some c==some 48):=by
    rw[Bool.eq_iff_iff]
    simp only[beq_iff_eq,Option.some.injEq]
    constructor
    ·intro e;apply UInt8.toNat_inj.1;simp only[UInt8.reduceToNat];omega
    ·intro e;subst e;rfl
   rw[e2]
   rfl
  ·rw[cond_f (by rw[decide_eq_false (by omega)];rfl),cond_f (by rw[decide_eq_false (by omega)];rfl),decide_eq_false k]
   simp
theorem resV (N:Nat)(m:Bool)(k:Nat):valF N m (k:Int)=some (resP (bif over64 (sgn N m)||(sgn N m==0&&m) then none else some (sgn N m,k))):=by
 unfold valF
 cases over64 (sgn N m)||(sgn N m==0&&m)<;>rfl
theorem scan_end {s b:List UInt8}{m:Bool}{f:Nat}(hf:f≤1)(hs:s.length≤4000)(hb:s.length=f+b.length)(hd:s.drop f=b) :
  (match scan f b f none [] with|none=>failP|some (pt',ds')=>finP s m ds'.length (cellsD ds') (ptI pt') (f:Int) (s.length:Int))=some (resP (valP (cutA b) (cutR b) (cutB b) m)):=by
 have hh:s[f]? = b.head? := by rw[← hd,List.head?_drop]
 have no:∀ d∈([]:List Nat),d<10:=fun d h=>by cases h
 cases hc:cutB b
 ·obtain⟨e1,e2⟩:=cut_none hc
  rw[e1,e2]
  unfold valP badP
  cases ha:b.all isD
  ·have:=scan_bad f b [] f none [] ha (.inr hc)
   rw[List.append_nil] at this
   have hdg:digB b=false:=by unfold digB;rw[ha];rfl
   rw[this,hdg]
   rfl
  ·have:=scan_digits f b [] f none [] ha
   rw[List.append_nil] at this
   have hp:=push_lt b [] ha no
   have hl:=push_len b []
   simp only[List.length_nil,Nat.zero_add] at hl
   rw[this]
   simp only[scan]
   show finP s m _ _ (-1) _ _=_
   unfold finP fin2
   rw[cond_f (by decide),cond_f (by decide),fin3_eq hp (by omega) hf (by omega) (Nat.le_refl _) hs,push_nat,hh,List.append_nil]
   have ed:digB b=!decide (s.length=f):=by
    unfold digB
    rw[ha,Bool.true_and]
    cases b with
    |nil=>simp at hb;rw[decide_eq_true hb];rfl
    |cons c t=>rw[decide_eq_false (by simp at hb;omega)];rfl
   have el:decide (1<b.length)=decide (f+1<s.length):=by congr 1;simp only[eq_iff_iff];omega
   rw[ed,el,Bool.not_not]
   show (bif decide (s.length=f)||(decide (f+1<s.length)&&(b.head? == some 48)) then failP else valF (digV b) m 0)=some (resP (bif decide (s.length=f)||(decide (f+1<s.length)&&b.head? == some 48)||false then none else _))
   rw[Bool.or_false]
   cases decide (s.length=f)||(decide (f+1<s.length)&&(b.head? == some 48))
   ·exact resV (digV b) m 0
   ·rfl
 ·obtain⟨e1,e2⟩:=cut_some hc
  have hnA:=cutA_no b
  have hlen:b.length=(cutA b).length+1+(cutR b).length:=by
   conv=>lhs;rw[e1]
   simp only[List.length_append,List.length_cons];omega
  have hhd:∀ c t,cutA b=c::t→b.head? = some c:=by
   intro c t e
   rw[e1,e];rfl
  generalize cutA b=w at *
  generalize cutR b=r at *
  unfold valP badP
  cases ha:w.all isD
  ·have hdg:digB w=false:=by unfold digB;rw[ha];rfl
   rw[e1,scan_bad f w _ f none [] ha (.inr hnA),hdg]
   rfl
  ·rw[e1,scan_digits f w _ f none [] ha,scan]
   simp only[beq_self_eq_true,Option.isNone_none,Bool.true_and]
   by_cases hw:w=[]
   ·subst hw
    rw[decide_eq_false (by simp)]
    rfl
   ·have hwl:0<w.length:=List.length_pos_iff.2 hw
    have hdw:digB w=true:=digB_iff.2 ⟨ha,hw⟩
    rw[decide_eq_true (by omega),cond_true,hdw]
    cases hr:r.all isD
    ·have:=scan_bad f r [] (f+w.length+1) (some (f+w.length)) (pushD w []) hr (.inl rfl)
     rw[List.append_nil] at this
     have hdr:digB r=false:=by unfold digB;rw[hr];rfl
     rw[this,hdr]
     simp only[Bool.not_false,Bool.true_or,Bool.and_true,Bool.or_true,cond_true]
     rfl
    ·have:=scan_digits f r [] (f+w.length+1) (some (f+w.length)) (pushD w []) hr
     rw[List.append_nil] at this
     rw[this,← push_app]
     have hall:(w++r).all isD=true:=by rw[List.all_append,ha,hr];rfl
     have hp:=push_lt (w++r) [] hall no
     have hl:=push_len (w++r) []
     simp only[List.length_nil,Nat.zero_add,List.length_append] at hl
     simp only[scan]
     show finP s m _ _ (((f+w.length:Nat):Int)) _ _=_
     unfold finP fin2
     have hsc:IntKind.i64.wrap (IntKind.i64.wrap ((s.length:Int)-((f+w.length:Nat):Int))-1)=(r.length:Int):=by
      rw[wrapI_of (x:=(s.length:Int)-_) (by omega) (by omega),wrapI_of (by omega) (by omega)];omega
     rw[cond_t (decide_eq_true (by omega)),cond_t (decide_eq_true (by omega)),hsc,fin3_eq hp (by omega) hf (by omega) (by omega) hs,push_nat,hh]
     have edr:digB r=!decide (r.length=0):=by
      unfold digB
      rw[hr,Bool.true_and]
      cases r with
      |nil=>rfl
      |cons c t=>rw[decide_eq_false (by simp)];rfl
     have e0:((r.length:Int)==0)=decide (r.length=0):=by
      rw[Bool.eq_iff_iff];simp only[beq_iff_eq,decide_eq_true_eq];omega
     have e6:decide (6<(r.length:Int))=decide (6<r.length):=by congr 1;simp only[eq_iff_iff];omega
     have ewf:decide (f+w.length=f)=false:=decide_eq_false (by omega)
     have e1w:decide (f+1<f+w.length)=decide (1<w.length):=by congr 1;simp only[eq_iff_iff];omega
     obtain⟨c,t,ew⟩:=List.exists_cons_of_ne_nil hw
     have eh:(w++46::r).head? = w.head? := by rw[ew];rfl
     rw[hhd c t ew,edr,e0,e6,ewf,e1w,Bool.not_not]
     have eh2:w.head? = some c:=by rw[ew];rfl
     rw[eh2]
     simp only[Bool.not_true,Bool.false_or,Bool.true_and]
     cases h1:decide (r.length=0)||decide (6<r.length)
     ·rw[cond_false,Bool.or_false]
      cases h2:decide (1<w.length)&&some c==some 48
      ·exact resV (digV (w++r)) m r.length
      ·rfl
     ·rw[cond_true,Bool.or_true]
      rfl
theorem rp_start0 {fu:Nat}{s:List UInt8}{m:Bool}(hs:s.length≤4000)(hfu:5000≤fu):rpLoop fu fu (frP s 0 m (some true) 0 [] (-1) 0)=some (resP (valP (cutA s) (cutR s) (cutB s) m)):=by
 have h1:=rp_loop fu s hs m 0 s.length 0 fu (some true) none [] (by omega) (by omega) (Nat.le_refl _)
 rw[List.drop_zero] at h1
 exact h1.trans (scan_end (by omega) hs (by omega) List.drop_zero)
theorem rp_start1 {fu:Nat}{c:UInt8}{t:List UInt8}{m:Bool}(hs:(c::t).length≤4000)(hfu:5000≤fu):rpLoop fu fu (frP (c::t) 1 m (some true) 0 [] (-1) 1)=some (resP (valP (cutA t) (cutR t) (cutB t) m)):=by
 have hl:(c::t).length=t.length+1:=rfl
 have h1:=rp_loop fu (c::t) hs m 1 t.length 1 fu (some true) none [] (by omega) (by omega) (Nat.zero_le _)
 have hd:(c::t).drop 1=t:=rfl
 rw[hd] at h1
 exact h1.trans (scan_end (by omega) hs (by omega) hd)
theorem rp_all {fu:Nat}{s:List UInt8}(hs:s.length≤4000)(hfu:5000≤fu):prun (en lRP) hRP fu false Tryz.f57 [.str s]=some (resP (parseP s)):=by
 rw[rp_raw]
 cases s with
 |nil=>exact rp_start0 hs hfu
 |cons c t =>
  rw[cond_t (by rfl),ixB_head c t rfl]
  unfold parseP noM
  by_cases h:c=45
  ·subst h
   have e:hasM (45::t)=true:=rfl
   have e2:(((45:UInt8).toNat:Int)==45)=true:=rfl
   rw[e,e2,cond_true,cond_true]
   exact rp_start1 hs hfu
  ·have e:hasM (c::t)=false:=by unfold hasM;simp[h]
   have e2:((c.toNat:Int)==45)=false:=by
    rw[beq_eq_false_iff_ne]
    intro k
    apply h
    apply UInt8.toNat_inj.1
    simp only[UInt8.reduceToNat];omega
   rw[e,e2,cond_false,cond_false]
   exact rp_start0 hs hfu
def p_RParse:PFn:=⟨fun xs k=>match xs with|[.str s]=>bif decide (s.length≤4000) then k (resP (parseP s)) else none|_=>none,false⟩
theorem ok_RParse:FOK NGd Wd 57 p_RParse:=by
 refine fok wokd ok_lRP (h:=hRP) Tryz.func57 rfl (by decide) ?_ ?_
 ·intro R xs k
  simp only[p_RParse]
  split
  ·exact cond_nat
  ·rfl
 ·intro xs r h
  simp only[p_RParse] at h
  split at h
  ·rename_i s
   rcases hb:decide (s.length≤4000) with _|_<;>rw[hb] at h
   ·cases h
   ·simp only[decide_eq_true_eq] at hb
    exact⟨10000,(rp_all hb (by decide)).trans h⟩
  ·cases h
end Go.Proofs.YtkpfigikffphdaaGreatDoor
namespace Go.Proofs.YtkpfigikffphdaaGreatDoor
open Go.RowKit
theorem ch_nat {d:Nat}(h:d<10):(UInt8.ofNat (48+d)).toNat=48+d:=by simp;omega
theorem ch_isD {d:Nat}(h:d<10):isD (UInt8.ofNat (48+d))=true:=by
 unfold isD
 rw[ch_nat h,decide_eq_true (by omega),decide_eq_true (by omega)];rfl
theorem vacc_app (a:Nat)(l:List UInt8)(c:UInt8):vacc a (l++[c])=vacc a l * 10+(c.toNat-48):=by simp[vacc]
theorem head_app {l:List UInt8}{t:List UInt8}(h:l≠[]):(l++t).head? = l.head? := by
 obtain⟨c,r,e⟩:=List.exists_cons_of_ne_nil h
 rw[e];rfl
theorem decD_facts:∀ (k u:Nat),u<10^(k+1)→(decD (k+1) u).all isD=true∧decD (k+1) u≠[]∧digV (decD (k+1) u)=u∧(decD (k+1) u).length≤k+1∧(0<u→∀ c,(decD (k+1) u).head? = some c→c≠48)∧(1<(decD (k+1) u).length→0<u)
 |k, u, hu=>by
  unfold decD
  by_cases h:u<10
  ·rw[decide_eq_true h,cond_true]
   refine⟨by rw[List.all_cons,ch_isD h];rfl,by simp,?_,by simp,?_,by simp⟩
   ·show 0 * 10+((UInt8.ofNat (48+u)).toNat-48)=u
    rw[ch_nat h];omega
   ·intro hp c hc
    simp only[List.head?_cons,Option.some.injEq] at hc
    subst hc
    intro e
    have:=congrArg UInt8.toNat e
    rw[ch_nat h] at this
    simp at this;omega
  ·rw[decide_eq_false h,cond_false]
   match k,hu with
   |0,hu=>simp at hu;omega
   |k+1,hu =>
    have hq:u/10<10^(k+1):=(Nat.div_lt_iff_lt_mul (by decide)).2 (by rw[Nat.pow_succ] at hu;exact hu)
    obtain⟨f1,f2,f3,f4,f5,f6⟩:=decD_facts k (u/10) hq
    have hm:u%10<10:=Nat.mod_lt _ (by decide)
    refine⟨by rw[List.all_append,f1,List.all_cons,ch_isD hm];rfl,by simp,?_,by simp;omega,?_,fun _=>by omega⟩
    ·unfold digV at *
     rw[vacc_app,f3,ch_nat hm];omega
    ·intro hp c hc
     rw[head_app f2] at hc
     exact f5 (by omega) c hc
def dS (N:Nat):List UInt8:=decD 20 N
theorem dS_facts {N:Nat}(h:N<10^20):(dS N).all isD=true∧dS N≠[]∧digV (dS N)=N∧(dS N).length≤20∧(0<N→∀ c,(dS N).head? = some c→c≠48)∧(1<(dS N).length→0<N):=decD_facts 19 N h
def padS (t:List UInt8)(k:Nat):List UInt8:=List.replicate (k+1-t.length) 48++t
def catM (m:Bool)(t:List UInt8):Option PV:=bif m then bif decide (([45]:List UInt8).length+t.length≤9223372036854775807) then some (.str ([45]++t)) else none else some (.str t)
def prFin (x:List UInt8)(sc:Int)(m:Bool):Option PV :=
 bif decide (0<sc) then
  bif decide (0≤IntKind.i64.wrap ((x.length:Int)-sc))&&decide (IntKind.i64.wrap ((x.length:Int)-sc)≤(x.length:Int)) then
   bif decide (((x.take (IntKind.i64.wrap ((x.length:Int)-sc)).toNat).drop 0).length+([46]:List UInt8).length≤9223372036854775807) then
    bif decide (0≤IntKind.i64.wrap ((x.length:Int)-sc))&&decide (IntKind.i64.wrap ((x.length:Int)-sc)≤(x.length:Int)) then
     bif decide ((((x.take (IntKind.i64.wrap ((x.length:Int)-sc)).toNat).drop 0)++[46]).length+((x.take x.length).drop (IntKind.i64.wrap ((x.length:Int)-sc)).toNat).length≤9223372036854775807) then
      catM m (((x.take (IntKind.i64.wrap ((x.length:Int)-sc)).toNat).drop 0)++[46]++((x.take x.length).drop (IntKind.i64.wrap ((x.length:Int)-sc)).toNat))
     else none
    else none
   else none
  else none
 else catM m x
def dotS (p:List UInt8)(k:Nat):List UInt8:=bif decide (0<k) then p.take (p.length-k)++[46]++p.drop (p.length-k) else p
def printS (N:Nat)(m:Bool)(k:Nat):List UInt8:=(bif m then [45] else [])++dotS (padS (dS N) k) k
theorem catM_eq {m:Bool}{t:List UInt8}(h:t.length≤10000):catM m t=some (.str ((bif m then [45] else [])++t)):=by
 unfold catM
 cases m
 ·rfl
 ·rw[cond_true,cond_t (decide_eq_true (by simp;omega))];rfl
theorem prFin_eq {x:List UInt8}{k:Nat}{m:Bool}(hk:k<x.length)(hx:x.length≤5000):prFin x (k:Int) m=some (.str ((bif m then [45] else [])++dotS x k)):=by
 unfold prFin dotS
 have hw:IntKind.i64.wrap ((x.length:Int)-(k:Int))=(x.length:Int)-(k:Int):=wrapI_of (by omega) (by omega)
 have ht:((x.length:Int)-(k:Int)).toNat=x.length-k:=by omega
 by_cases h:0<k
 ·rw[cond_t (decide_eq_true (by omega)),decide_eq_true h,cond_true]
  simp only[hw,ht]
  have hb:(decide (0≤(x.length:Int)-(k:Int))&&decide ((x.length:Int)-(k:Int)≤(x.length:Int)))=true:=by rw[decide_eq_true (by omega),decide_eq_true (by omega)];rfl
  rw[hb,List.take_length,List.drop_zero]
  have l1:(x.take (x.length-k)).length=x.length-k:=by rw[List.length_take];omega
  rw[cond_true,cond_true,cond_t (decide_eq_true (by rw[l1];simp;omega)),cond_t (decide_eq_true (by simp only[List.length_append,l1,List.length_drop,List.length_cons,List.length_nil];omega)),catM_eq (by simp only[List.length_append,l1,List.length_drop,List.length_cons,List.length_nil];omega)]
 ·rw[cond_f (decide_eq_false (by omega)),decide_eq_false h,cond_false,catM_eq (by omega)]
theorem pad_step {t:List UInt8}{k:Nat}(h:t.length≤k):padS (48::t) k=padS t k:=by
 unfold padS
 rw[show k+1-t.length=(k+1-(48::t).length)+1 by simp only[List.length_cons];omega,List.replicate_succ',List.append_assoc]
 rfl
theorem pad_done {t:List UInt8}{k:Nat}(h:k<t.length):padS t k=t:=by
 unfold padS
 rw[show k+1-t.length=0 by omega];rfl
def hPr:Hints:=⟨[],[(0,⟨[(1,false),(5,false),(6,false)],[]⟩)]⟩
noncomputable def lPr:List (FuncId×PFn):=[(163,p_Right),(164,p_CutP),(89,p_Itoa)]
theorem ok_lPr:AllOK NGd Wd lPr:=allOK_cons ok_Right (allOK_cons ok_CutP (allOK_cons ok_Itoa allOK_nil))
def frPr (sc:Int)(x:List UInt8)(m:Bool):St:=frame 42 [(1,(.int .i64 sc,0)),(5,(.str x,0)),(6,(.bool m,0))] []
noncomputable def prLoop (fu n:Nat)(st:St):Option PV:=loopF (en lPr) hPr fu false Tryz.f83 [1,1,1,0,0] 0 n st
theorem pr_raw (fu:Nat)(n sc:Int):prun (en lPr) hPr fu false Tryz.f83 [.int .i64 n,.int .i64 sc] =
  bif !scaleB sc then some (.str []) else bif decide (-9223372036854775808≤n)&&decide (n≤9223372036854775807) then prLoop fu fu (frPr sc (noM (itoaD n)) (hasM (itoaD n))) else none:=by kernel_rfl
theorem pr_step (fu:Nat)(sc:Int)(x:List UInt8)(m:Bool)(K:St→Option PV) :
  stepF (en lPr) hPr fu false Tryz.f83 [1,1,1,0,0] (frPr sc x m) (fun st=>pnorm (hPr.loop.lookup 0) st K) =
  bif decide ((x.length:Int)≤sc) then bif decide (([48]:List UInt8).length+x.length≤9223372036854775807) then K (frPr sc ([48]++x) m) else none else prFin x sc m:=by kernel_rfl
theorem pr_loop (fu:Nat)(k:Nat)(hk:k≤6)(m:Bool):∀ (j n:Nat) (x:List UInt8),k+1≤x.length+j→j<n→x.length≤100→prLoop fu n (frPr (k:Int) x m)=some (.str ((bif m then [45] else [])++dotS (padS x k) k))
 |j,0,_,_,h,_=>by omega
 |j,n+1,x,hj,hn,hx=>by
  unfold prLoop
  rw[loopF_succ,pr_step]
  by_cases h:x.length≤k
  ·rw[cond_t (decide_eq_true (by omega)),cond_t (decide_eq_true (by simp;omega))]
   have ih:=pr_loop fu k hk m (j-1) n (48::x) (by simp;omega) (by omega) (by simp;omega)
   rw[pad_step h] at ih
   unfold prLoop at ih
   exact ih
  ·rw[cond_f (decide_eq_false (by omega)),prFin_eq (by omega) (by omega),pad_done (by omega)]
theorem noM_digits {t:List UInt8}(h:t.all isD=true):noM t=t∧hasM t=false:=by
 have:hasM t=false:=by
  unfold hasM
  cases t with
  |nil=>rfl
  |cons c t =>
   rw[List.all_cons,Bool.and_eq_true] at h
   have hc:=h.1
   simp only[List.head?_cons]
   rw[beq_eq_false_iff_ne]
   intro e
   injection e with e
   subst e
   simp[isD] at hc
 unfold noM
 rw[this]
 exact⟨rfl,rfl⟩
theorem itoa_cut {n:Int}(h:inI n=true):noM (itoaD n)=dS n.natAbs∧hasM (itoaD n)=decide (n<0):=by
 rw[inI_iff] at h
 have f:=(dS_facts (N:=n.natAbs) (by omega)).1
 unfold itoaD
 by_cases k:n<0
 ·rw[decide_eq_true k,cond_true]
  exact⟨rfl,rfl⟩
 ·rw[decide_eq_false k,cond_false,show n.toNat=n.natAbs by omega]
  exact noM_digits f
def prV (n sc:Int):List UInt8:=bif scaleB sc then printS n.natAbs (decide (n<0)) sc.toNat else []
def p_Print:PFn:=⟨fun xs k=>match xs with|[.int .i64 n,.int .i64 sc]=>bif inI n then k (.str (prV n sc)) else none|_=>none,false⟩
theorem ok_Print:FOK NGd Wd 83 p_Print:=by
 refine fok wokd ok_lPr (h:=hPr) Tryz.func83 rfl (by decide) ?_ ?_
 ·intro R xs k
  simp only[p_Print]
  split
  ·exact cond_nat
  ·rfl
 ·intro xs r h
  simp only[p_Print] at h
  split at h
  ·rename_i n sc
   rcases hb:inI n with _|_<;>rw[hb] at h
   ·cases h
   ·simp only[cond_true,Option.some.injEq] at h
    subst h
    refine⟨10000,(pr_raw 10000 n sc).trans ?_⟩
    unfold prV
    cases hs:scaleB sc
    ·rfl
    ·rw[scaleB_iff] at hs
     obtain⟨e1,e2⟩:=itoa_cut hb
     rw[inI_iff] at hb
     have f:=(dS_facts (N:=n.natAbs) (by omega)).2.2.2.1
     rw[Bool.not_true,cond_false,cond_true,cond_t (by rw[decide_eq_true hb.1,decide_eq_true hb.2];rfl),e1,e2]
     obtain⟨k,rfl⟩:=Int.eq_ofNat_of_zero_le hs.1
     have:=pr_loop 10000 k (by omega) (decide (n<0)) 7 10000 (dS n.natAbs) (by omega) (by omega) (by omega)
     rw[Int.toNat_natCast]
     exact this
  ·cases h
end Go.Proofs.YtkpfigikffphdaaGreatDoor
namespace Go.Proofs.YtkpfigikffphdaaGreatDoor
open Go.RowKit
end Go.Proofs.YtkpfigikffphdaaGreatDoor
end
section
namespace Go.Proofs.YtkpfigikffphdaaGreatDoor
open Go.RowKit
def NGk:Nat:=max (4+1) (5+1)
theorem tabs_size {w:World}(h:Tabs w):NGk≤w.heap.size:=by
 have h1:=World.block_lt_of_cell? w _ (h.2 0 (by decide)).1
 have h2:=World.block_lt_of_cell? w _ (h.1 0 (by decide))
 exact Nat.max_le.2 ⟨h2,h1⟩
theorem wokk:WOK NGk Tabs:=by
 intro w w' h hW
 have hc:∀ (b o:Nat),b<NGk→w'.cell? ⟨b,o,none⟩=w.cell? ⟨b,o,none⟩:=by
  intro b o hb
  unfold World.cell?
  simp only[h b hb]
 refine⟨fun c hlt=>?_,fun i hi=>?_⟩
 ·rw[hc _ _ (by decide)];exact hW.1 c hlt
 ·rw[hc _ _ (by decide),hc _ _ (by decide)];exact hW.2 i hi
def p_valid:PFn:=⟨fun xs k=>match xs with|[.str s]=>bif decide (s.length≤1000000) then k (.bool (Lib.validD s)) else none|_=>none,false⟩
theorem ok_valid:FOK NGk Tabs 257 p_valid:=by
 refine fok_calls Tryz.func257 (by kernel_rfl) (by decide) ?_ rfl ?_
 ·intro R xs k
  simp only[p_valid]
  split
  ·exact cond_nat
  ·rfl
 ·intro xs r M vs hW h hr
  simp only[p_valid] at h
  split at h
  ·rename_i s
   rcases hb:decide (s.length≤1000000) with _|_<;>rw[hb] at h
   ·cases h
   ·simp only[cond_true,Option.some.injEq] at h
    subst h
    simp only[decide_eq_true_eq] at hb
    obtain⟨v,rfl,h1⟩:=relT1 hr
    simp only[RelD] at h1
    subst h1
    refine (valid_any s M.w (by omega) hW).mono ?_
    rintro e w' ⟨rfl,hbl⟩
    exact⟨_,rfl,hbl,fun U' _=>rfl⟩
  ·cases h
def p_utf:PFn:=p_valid
theorem ok_utf:FOK NGk Tabs 93 p_utf:=by
 refine fok_calls Tryz.func93 (by kernel_rfl) (by decide) ?_ rfl ?_
 ·intro R xs k
  simp only[p_utf,p_valid]
  split
  ·exact cond_nat
  ·rfl
 ·intro xs r M vs hW h hr
  simp only[p_utf,p_valid] at h
  split at h
  ·rename_i s
   rcases hb:decide (s.length≤1000000) with _|_<;>rw[hb] at h
   ·cases h
   ·simp only[cond_true,Option.some.injEq] at h
    subst h
    simp only[decide_eq_true_eq] at hb
    obtain⟨v,rfl,h1⟩:=relT1 hr
    simp only[RelD] at h1
    subst h1
    refine (utf_any s M.w (by omega)).mono ?_
    rintro e w' ⟨rfl,rfl⟩
    exact⟨_,rfl,Below.refl _ _,fun U' _=>rfl⟩
  ·cases h
def scB (s:Int):Bool:=decide (0≤s)&&decide (s≤6)
def p_sc:PFn:=⟨fun xs k=>match xs with|[.int .i64 s]=>k (.bool (scB s))|_=>none,false⟩
theorem sc_raw1 (l:List (FuncId×PFn))(s:Int)(fuel:Nat):prun (en l) ⟨[],[]⟩ fuel false Tryz.f163 [.int .i64 s]=some (.bool (decide (0≤s)&&decide (s≤6))):=by kernel_rfl
theorem sc_raw2 (l:List (FuncId×PFn))(s:Int)(fuel:Nat):prun (en l) ⟨[],[]⟩ fuel false Tryz.f92 [.int .i64 s]=some (.bool (decide (0≤s)&&decide (s≤6))):=by kernel_rfl
theorem ok_scR:FOK NGk Tabs 163 p_sc:=by
 refine fok wokk allOK_nil (h:=⟨[],[]⟩) Tryz.func163 rfl (by decide) ?_ ?_
 ·intro R xs k
  simp only[p_sc]
  split<;>rfl
 ·intro xs r h
  simp only[p_sc] at h
  split at h
  ·exact⟨0,(sc_raw1 [] _ 0).trans h⟩
  ·cases h
theorem ok_scS:FOK NGk Tabs 92 p_sc:=by
 refine fok wokk allOK_nil (h:=⟨[],[]⟩) Tryz.func92 rfl (by decide) ?_ ?_
 ·intro R xs k
  simp only[p_sc]
  split<;>rfl
 ·intro xs r h
  simp only[p_sc] at h
  split at h
  ·exact⟨0,(sc_raw2 [] _ 0).trans h⟩
  ·cases h
def rightB (a n c:Int)(s:List UInt8):Bool :=
 bif a==0 then n==0&&(c==0&&s==[]) else
 bif a==1 then (n==0||n==1)&&(c==0&&s==[]) else
 bif a==2 then c==0&&s==[] else
 bif a==3 then s==[]&&scB c else
 bif a==4 then n==0&&(c==0&&(decide (s.length≤200)&&Lib.validD s)) else
 bif a==5 then n==0&&(c==0&&decide (s.length≤200)) else false
def utO {R:Type}(s:List UInt8)(k:Bool→Option R):Option R:=bif decide (s.length≤1000000) then k (Lib.validD s) else none
noncomputable def lRight:List (FuncId×PFn):=[(163,p_sc),(257,p_valid)]
def eq4 (a a' n n' c c':Int)(s s':List UInt8):Bool:=a==a'&&(n==n'&&(c==c'&&(s==s'&&true)))
def rightBody (a n c:Int)(s:List UInt8):Option PV :=
 bif a==0 then some (.bool (eq4 a 0 n 0 c 0 s [])) else
 bif a==1 then some (.bool (eq4 a 1 n (IntKind.i64.wrap (BitVec.ofInt IntKind.i64.bits n &&& BitVec.ofInt IntKind.i64.bits 1).toNat) c 0 s [])) else
 bif a==2 then some (.bool (eq4 a 2 n n c 0 s [])) else
 bif a==3 then bif eq4 a 3 n n c c s [] then some (.bool (scB c)) else some (.bool false) else
 bif a==4 then bif eq4 a 4 n 0 c 0 s s&&decide ((s.length:Int)≤200) then utO s fun b=>some (.bool b) else some (.bool false) else
 bif a==5 then some (.bool (eq4 a 5 n 0 c 0 s s&&decide ((s.length:Int)≤200))) else some (.bool false)
theorem vright_raw (a n c:Int)(s:List UInt8):prun (en lRight) ⟨[],[]⟩ 0 false Tryz.f231 [.agg [.int .i64 a,.int .i64 n,.int .i64 c,.str s]]=rightBody a n c s:=by kernel_rfl
theorem and_one (n:Int):IntKind.i64.wrap (BitVec.ofInt IntKind.i64.bits n &&& BitVec.ofInt IntKind.i64.bits 1).toNat=n%2:=by
 have h:(BitVec.ofInt IntKind.i64.bits n &&& BitVec.ofInt IntKind.i64.bits 1).toNat=(n%2).toNat:=by
  rw[BitVec.toNat_and]
  have h1:(BitVec.ofInt IntKind.i64.bits 1).toNat=1:=rfl
  have h2:(BitVec.ofInt IntKind.i64.bits n).toNat=(n%18446744073709551616).toNat:=BitVec.toNat_ofInt ..
  rw[h1,h2,Nat.and_one_is_mod]
  omega
 rw[h,wrapI_of (by omega) (by omega)]
 omega
theorem right_body (a n c:Int) (s:List UInt8) (hs:s.length≤1000000):rightBody a n c s=some (.bool (rightB a n c s)):=by
  unfold rightBody rightB eq4
  simp only [Bool.and_true]
  have hl:decide ((s.length:Int)≤200)=decide (s.length≤200):=by congr 1;simp only [eq_iff_iff];omega
  have hn:(n == n % 2)=(n == 0 || n == 1):=by
    rw [Bool.eq_iff_iff]
    simp only [Bool.or_eq_true,beq_iff_eq]
    omega
  rw [and_one,hn,hl]
  by_cases h0:a=0
  · subst h0;rfl
  · rw [show (a == 0)=false by simpa using h0]
    by_cases h1:a=1
    · subst h1;rfl
    · rw [show (a == 1)=false by simpa using h1]
      by_cases h2:a=2
      · subst h2;simp
      · rw [show (a == 2)=false by simpa using h2]
        by_cases h3:a=3
        · subst h3
          simp only [cond_false,cond_true,beq_self_eq_true,Bool.true_and]
          cases s == []<;>rfl
        · rw [show (a == 3)=false by simpa using h3]
          by_cases h4:a=4
          · subst h4
            simp only [cond_false,cond_true,beq_self_eq_true,Bool.true_and,Bool.and_true]
            unfold utO
            rw [decide_eq_true hs]
            cases n == 0<;>cases c == 0<;>cases decide (s.length≤200)<;>rfl
          · rw [show (a == 4)=false by simpa using h4]
            by_cases h5:a=5
            · subst h5
              simp only [cond_false,cond_true,beq_self_eq_true,Bool.true_and,Bool.and_true]
              cases n == 0<;>cases c == 0<;>rfl
            · rw [show (a == 5)=false by simpa using h5];rfl
def p_rightV:PFn:=⟨fun xs k=>match xs with|[.agg [.int .i64 a,.int .i64 n,.int .i64 c,.str s]]=>bif decide (s.length≤1000000) then k (.bool (rightB a n c s)) else none|_=>none,false⟩
theorem ok_rightV:FOK NGk Tabs 231 p_rightV:=by
 refine fok wokk (allOK_cons ok_scR (allOK_cons ok_valid allOK_nil)) (h:=⟨[],[]⟩) Tryz.func231 rfl (by decide) ?_ ?_
 ·intro R xs k
  simp only[p_rightV]
  split
  ·exact cond_nat
  ·rfl
 ·intro xs r h
  simp only[p_rightV] at h
  split at h
  ·rename_i a n c s
   rcases hb:decide (s.length≤1000000) with _|_<;>rw[hb] at h
   ·cases h
   ·simp only[decide_eq_true_eq] at hb
    exact⟨0,(vright_raw a n c s).trans ((right_body a n c s hb).trans h)⟩
  ·cases h
noncomputable def lRRight:List (FuncId×PFn):=[(92,p_sc),(93,p_utf)]
def rr4 (a n c:Int)(s:List UInt8):Option PV :=
 bif !decide (200<(s.length:Int))&&a==4 then utO s fun b=>bif !b then some (.bool false) else some (.bool (eq4 a a n 0 c 0 s s))
 else bif !decide (200<(s.length:Int))&&a==4 then none else bif decide (200<(s.length:Int))||(a==4&&false) then some (.bool false) else some (.bool (eq4 a a n 0 c 0 s s))
def rrightBody (a n c:Int)(s:List UInt8):Option PV :=
 bif a==0 then some (.bool (eq4 a a n 0 c 0 s [])) else
 bif a==1 then bif !(n==0)&&!(n==1) then some (.bool false) else some (.bool (eq4 a a n n c 0 s [])) else
 bif a==2 then some (.bool (eq4 a a n n c 0 s [])) else
 bif a==3 then bif !scB c then some (.bool false) else some (.bool (eq4 a a n n c c s [])) else
 bif a==4 then bif a==4 then rr4 a n c s else some (.bool false) else
 bif a==5 then rr4 a n c s else some (.bool false)
theorem rright_raw (a n c:Int)(s:List UInt8):prun (en lRRight) ⟨[],[]⟩ 0 false Tryz.f47 [.agg [.int .i64 a,.int .i64 n,.int .i64 c,.str s]]=rrightBody a n c s:=by kernel_rfl
theorem rright_body (a n c:Int) (s:List UInt8) (hs:s.length≤1000000):rrightBody a n c s=some (.bool (rightB a n c s)):=by
  unfold rrightBody rightB rr4 utO eq4
  simp only [Bool.and_true]
  have hl:decide (200 < (s.length:Int))=!decide (s.length≤200):=by
    rw [Bool.eq_iff_iff];simp;omega
  rw [hl,decide_eq_true hs]
  by_cases h0:a=0
  · subst h0;rfl
  · rw [show (a == 0)=false by simpa using h0]
    by_cases h1:a=1
    · subst h1
      simp only [cond_false,cond_true,beq_self_eq_true,Bool.true_and]
      cases n == 0<;>cases n == 1<;>rfl
    · rw [show (a == 1)=false by simpa using h1]
      by_cases h2:a=2
      · subst h2;simp
      · rw [show (a == 2)=false by simpa using h2]
        by_cases h3:a=3
        · subst h3
          simp only [cond_false,cond_true,beq_self_eq_true,Bool.true_and]
          cases s == []<;>cases scB c<;>rfl
        · rw [show (a == 3)=false by simpa using h3]
          by_cases h4:a=4
          · subst h4
            simp only [cond_false,cond_true,beq_self_eq_true,Bool.true_and,Bool.and_true]
            cases n == 0<;>cases c == 0<;>cases decide (s.length≤200)<;>cases Lib.validD s<;>rfl
          · rw [show (a == 4)=false by simpa using h4]
            by_cases h5:a=5
            · subst h5
              simp only [cond_false,cond_true,beq_self_eq_true,Bool.true_and,Bool.and_true]
              cases n == 0<;>cases c == 0<;>cases decide (s.length≤200)<;>rfl
            · rw [show (a == 5)=false by simpa using h5];rfl
theorem ok_rightR:FOK NGk Tabs 47 p_rightV:=by
 refine fok wokk (allOK_cons ok_scS (allOK_cons ok_utf allOK_nil)) (h:=⟨[],[]⟩) Tryz.func47 rfl (by decide) ?_ ?_
 ·intro R xs k
  simp only[p_rightV]
  split
  ·exact cond_nat
  ·rfl
 ·intro xs r h
  simp only[p_rightV] at h
  split at h
  ·rename_i a n c s
   rcases hb:decide (s.length≤1000000) with _|_<;>rw[hb] at h
   ·cases h
   ·simp only[decide_eq_true_eq] at hb
    exact⟨0,(rright_raw a n c s).trans ((rright_body a n c s hb).trans h)⟩
  ·cases h
end Go.Proofs.YtkpfigikffphdaaGreatDoor
end
section
set_option maxRecDepth 100000
namespace Go.Proofs.YtkpfigikffphdaaGreatDoor
open Go.RowKit
def NGc:Nat:=max NGe NGk
noncomputable def Wc (w:World):Prop:=We w∧Tabs w
theorem wokc:WOK NGc Wc:=fun w w' h hW=>⟨woke w w' (fun b hb=>h b (by unfold NGc;omega)) hW.1,wokk w w' (fun b hb=>h b (by unfold NGc;omega)) hW.2⟩
theorem fok_d {f:FuncId}{p:PFn}(hp:FOK NGd Wd f p):FOK NGc Wc f p where
 nat:=hp.nat
 call:=fun M xs vs r hW hng=>hp.call M xs vs r hW.1.1 (Nat.le_trans nge_d (by unfold NGc at hng;omega))
theorem fok_e {f:FuncId}{p:PFn}(hp:FOK NGe We f p):FOK NGc Wc f p where
 nat:=hp.nat
 call:=fun M xs vs r hW hng=>hp.call M xs vs r hW.1 (by unfold NGc at hng;omega)
theorem fok_k {f:FuncId}{p:PFn}(hp:FOK NGk Tabs f p):FOK NGc Wc f p where
 nat:=hp.nat
 call:=fun M xs vs r hW hng=>hp.call M xs vs r hW.2 (by unfold NGc at hng;omega)
def tyB (k s:Int):Bool:=bif k==3 then scB s else decide (1≤k)&&decide (k≤5)&&s==0
def p_typ:PFn:=⟨fun xs k=>match xs with|[.agg [.int .i64 a,.int .i64 b]]=>k (.bool (tyB a b))|_=>none,false⟩
theorem p_typ_nat:p_typ.nat:=by
 intro R xs k
 simp only[p_typ]
 split<;>rfl
theorem typ_raw (a b:Int):prun (en [(163,p_sc)]) ⟨[],[]⟩ 0 false Tryz.f82 [.agg [.int .i64 a,.int .i64 b]] =
  bif a==3 then some (.bool (scB b)) else some (.bool (decide (1≤a)&&decide (a≤5)&&b==0)):=by kernel_rfl
theorem ok_typ:FOK NGc Wc 82 p_typ:=by
 refine fok wokc (allOK_cons (fok_k ok_scR) allOK_nil) (h:=⟨[],[]⟩) Tryz.func82 rfl (by decide) p_typ_nat ?_
 intro xs r h
 simp only[p_typ] at h
 split at h
 ·rename_i a b
  refine⟨0,(typ_raw a b).trans ?_⟩
  rw[← h]
  unfold tyB
  cases a==3<;>rfl
 ·cases h
def typB2 (a b:Int):Option PV :=
 bif a==1 then bif a==1 then some (.bool (b==0)) else bif a==3 then some (.bool (scB b)) else some (.bool false)
 else bif a==2 then bif a==2 then some (.bool (b==0)) else bif a==3 then some (.bool (scB b)) else some (.bool false)
 else bif a==4 then bif a==4 then some (.bool (b==0)) else bif a==3 then some (.bool (scB b)) else some (.bool false)
 else bif a==5 then some (.bool (b==0)) else bif a==3 then some (.bool (scB b)) else some (.bool false)
theorem rtyp_raw (a b:Int):prun (en [(92,p_sc)]) ⟨[],[]⟩ 0 false Tryz.f50 [.agg [.int .i64 a,.int .i64 b]]=typB2 a b:=by kernel_rfl
theorem ok_rtyp : FOK NGc Wc 50 p_typ:=by
 refine fok wokc (allOK_cons (fok_k ok_scS) allOK_nil) (h:=⟨[],[]⟩) Tryz.func50 rfl (by decide) p_typ_nat ?_
 intro xs r h
 simp only[p_typ] at h
 split at h
 ·rename_i a b
  refine⟨0,(rtyp_raw a b).trans ?_⟩
  rw[← h]
  unfold tyB typB2
  by_cases h1:a=1
  ·subst h1;rfl
  ·by_cases h2:a=2
   ·subst h2;rfl
   ·by_cases h3:a=3
    ·subst h3;rfl
    ·by_cases h4:a=4
     ·subst h4;rfl
     ·by_cases h5:a=5
      ·subst h5;rfl
      ·rw[show (a==1)=false by simpa using h1,show (a==2)=false by simpa using h2,show (a==3)=false by simpa using h3,show (a==4)=false by simpa using h4,show (a==5)=false by simpa using h5]
       have:(decide (1≤a)&&decide (a≤5))=false:=by
        rw[Bool.eq_false_iff]
        simp only[ne_eq,Bool.and_eq_true,decide_eq_true_eq]
        omega
       rw[this];rfl
 ·cases h
end Go.Proofs.YtkpfigikffphdaaGreatDoor
set_option maxRecDepth 100000
namespace Go.Proofs.YtkpfigikffphdaaGreatDoor
open Go.RowKit
end Go.Proofs.YtkpfigikffphdaaGreatDoor
set_option maxRecDepth 100000
namespace Go.Proofs.YtkpfigikffphdaaGreatDoor
open Go.RowKit
end Go.Proofs.YtkpfigikffphdaaGreatDoor
set_option maxRecDepth 100000
namespace Go.Proofs.YtkpfigikffphdaaGreatDoor
open Go.RowKit
end Go.Proofs.YtkpfigikffphdaaGreatDoor
end
section
set_option maxRecDepth 100000
namespace Go.Proofs.YtkpfigikffphdaaGreatDoor
open Go.RowKit
def NGs:Nat:=max NGc (max (2+1) (0+1))
def HasMax (w:World):Prop:=∃ m,w.cell? ⟨2,0,none⟩=some (.int .i64 m)
def HasSpc (w:World):Prop:=Lib.TabIs Tryz.prog w "strings.asciiSpace" .u8 Lib.asciiSpaceTab
noncomputable def Ws (w:World):Prop:=Wc w∧HasMax w∧HasSpc w
theorem ngs_c:NGc≤NGs:=by unfold NGs;omega
theorem woks:WOK NGs Ws:=fun w w' h hW=>by
 refine⟨wokc w w' (fun b hb=>h b (Nat.lt_of_lt_of_le hb ngs_c)) hW.1,?_,?_⟩
 ·obtain⟨m,hm⟩:=hW.2.1
  refine⟨m,?_⟩
  unfold World.cell? at hm ⊢
  rw[show w'.heap[2]? = w.heap[2]? from h _ (by unfold NGs;omega)]
  exact hm
 ·have:=hW.2.2
  unfold HasSpc Lib.TabIs World.var? at this ⊢
  rw[show Tryz.prog.globalNamed "strings.asciiSpace" = some 0 by kernel_rfl,Option.bind_some] at this ⊢
  rw[show w'.heap[0]? = w.heap[0]? from h _ (by unfold NGs;omega)]
  exact this
theorem fok_s {f:FuncId}{p:PFn}(hp:FOK NGc Wc f p):FOK NGs Ws f p where
 nat:=hp.nat
 call:=fun M xs vs r hW hng=>hp.call M xs vs r hW.1 (Nat.le_trans ngs_c hng)
theorem fok_calls' {NG:Nat}{W:World→Prop}{f:FuncId}{fn:Func}(hf:Tryz.prog.funcs[f]? = some fn)(hb:fn.body.isSome=true)(hname:fn.name ≠ "runtime.NumGoroutine"){p:PFn}(hn:p.nat)(ho:p.own=false)
  (hrun:∀ (xs:List PV) (r:PV) (M:Mem) (vs:List Value),W M.w→p.F xs (R:=PV) some=some r→RelT M xs vs→Calls Tryz.prog f vs.toArray M.w fun e w'=>∃ v,e=.returned v∧∃ U',Move M ⟨w',U',M.y⟩ none∧RelD ⟨w',U',M.y⟩ r v):FOK NG W f p where
 nat:=hn
 call:=by
  intro M xs vs r hW hng hg hr hF
  have hb':¬ fn.body=none:=by intro e;rw[e] at hb;cases hb
  refine .inr ⟨?_,(hrun xs r M vs hW hF hr).mono ?_⟩
  ·show (callFunc f vs.toArray).run Tryz.prog M.w=_
   simp[callFunc,hf]
   rw[if_neg hname,if_neg hb']
  ·rintro e w' ⟨v,rfl,U',h1,h2⟩
   exact⟨v,rfl,U',h1,h2,fun h=>by rw[ho] at h;cases h⟩
def p_rep:PFn:=⟨fun xs k=>match xs with|[.str s,.str a,.str b]=>bif decide (s.length≤100000)&&(decide (1≤a.length)&&decide (b.length≤100)) then k (.str (Lib.replaceAll s a b)) else none|_=>none,false⟩
theorem ok_rep:FOK NGs Ws 215 p_rep:=by
 refine fok_calls Tryz.func215 (by kernel_rfl) (by decide) ?_ rfl ?_
 ·intro R xs k
  simp only[p_rep]
  split
  ·exact cond_nat
  ·rfl
 ·intro xs r M vs hW h hr
  simp only[p_rep] at h
  split at h
  ·rename_i s a b
   obtain⟨hb,h⟩:=bif_inv h
   injection h with h
   subst h
   simp only[Bool.and_eq_true,decide_eq_true_eq] at hb
   obtain⟨v1,v2,v3,rfl,h1,h2,h3⟩:=relT3 hr
   simp only[RelD] at h1 h2 h3
   subst h1 h2 h3
   obtain⟨m,hm⟩:=hW.2.1
   refine (Any.strings_ReplaceAll Tryz.lays155 Tryz.Builder_Extra_155 ⟨s.toArray⟩ ⟨a.toArray⟩ ⟨b.toArray⟩ m M.w (by show s.toArray.size<_;rw[List.size_toArray];omega) hm (by show 1≤a.toArray.size;rw[List.size_toArray];omega) ?_).mono ?_
   ·have hc:=Lib.countB_le ⟨a.toArray⟩ (by show 1≤a.toArray.size;rw[List.size_toArray];omega) _ (⟨s.toArray⟩:ByteArray) (Nat.le_refl _)
    have e1:(⟨s.toArray⟩:ByteArray).size=s.length:=List.size_toArray
    have e2:(⟨b.toArray⟩:ByteArray).size=b.length:=List.size_toArray
    rw[e1] at hc ⊢
    rw[e2]
    have:Lib.countB ⟨s.toArray⟩ ⟨a.toArray⟩ * b.length≤100000 * 100:=Nat.mul_le_mul (by omega) hb.2.2
    omega
   ·rintro e w' ⟨rfl,hbl⟩
    exact⟨_,rfl,hbl,fun U' _=>rfl⟩
  ·cases h
def p_cnt:PFn:=⟨fun xs k=>match xs with|[.str s,.str [c]]=>k (.int .i64 (Lib.countByte s c))|_=>none,false⟩
theorem ok_cnt:FOK NGs Ws 263 p_cnt:=by
 refine fok_calls Tryz.func263 (by kernel_rfl) (by decide) ?_ rfl ?_
 ·intro R xs k
  simp only[p_cnt]
  split<;>rfl
 ·intro xs r M vs hW h hr
  simp only[p_cnt] at h
  split at h
  ·rename_i s c
   injection h with h
   subst h
   obtain⟨v1,v2,rfl,h1,h2⟩:=relT2 hr
   simp only[RelD] at h1 h2
   subst h1 h2
   refine (Any.strings_Count_one Tryz.lays138 ⟨s.toArray⟩ c M.w).mono ?_
   rintro e w' ⟨rfl,rfl⟩
   exact⟨_,rfl,Below.refl _ _,fun U' _=>rfl⟩
  ·cases h
def p_ixb:PFn:=⟨fun xs k=>match xs with|[.str s,.int .u8 c]=>k (.int .i64 (Lib.indexByte s c.toNat.toUInt8))|_=>none,false⟩
theorem ok_ixb:FOK NGs Ws 288 p_ixb:=by
 refine fok_calls Tryz.func288 (by kernel_rfl) (by decide) ?_ rfl ?_
 ·intro R xs k
  simp only[p_ixb]
  split<;>rfl
 ·intro xs r M vs hW h hr
  simp only[p_ixb] at h
  split at h
  ·rename_i s c
   injection h with h
   subst h
   obtain⟨v1,v2,rfl,h1,h2⟩:=relT2 hr
   simp only[RelD] at h1 h2
   subst h1 h2
   refine (Any.strings_IndexByte Tryz.lays137 ⟨s.toArray⟩ c M.w).mono ?_
   rintro e w' ⟨rfl,rfl⟩
   exact⟨_,rfl,Below.refl _ _,fun U' _=>rfl⟩
  ·cases h
def p_cts:PFn:=⟨fun xs k=>match xs with|[.str s,.str [c]]=>k (.bool (decide (0≤Lib.indexByte s c)))|_=>none,false⟩
theorem ok_cts:FOK NGs Ws 223 p_cts:=by
 refine fok_calls Tryz.func223 (by kernel_rfl) (by decide) ?_ rfl ?_
 ·intro R xs k
  simp only[p_cts]
  split<;>rfl
 ·intro xs r M vs hW h hr
  simp only[p_cts] at h
  split at h
  ·rename_i s c
   injection h with h
   subst h
   obtain⟨v1,v2,rfl,h1,h2⟩:=relT2 hr
   simp only[RelD] at h1 h2
   subst h1 h2
   refine (Any.strings_Contains_one Tryz.lays144 ⟨s.toArray⟩ c M.w).mono ?_
   rintro e w' ⟨rfl,rfl⟩
   exact⟨_,rfl,Below.refl _ _,fun U' _=>rfl⟩
  ·cases h
theorem words_len (l:List (List UInt8)):(l.flatMap stC).length=l.length * 1:=by
 induction l with
 |nil=>rfl
 |cons a l ih=>rw[List.flatMap_cons,List.length_append,ih,List.length_cons];show 1+l.length * 1=_;omega
theorem words_rel (M:Mem):∀ l:List (List UInt8),RelL M (l.flatMap stC) (l.map fun x=>Value.string ⟨x.toArray⟩)
 |[]=>rfl
 |a::l=>⟨_,_,rfl,rfl,rfl,words_rel M l⟩
def fldF (s:List UInt8):Option (Option Bool×Nat×List PV):=bif decide (s.length≤100000)&&s.all (fun b=>decide (b.toNat<128)) then some (some false,(Lib.fields s).length,(Lib.fields s).flatMap stC) else none
theorem fields_le:∀ (l cur:List UInt8),(Lib.fieldsGo cur l).length≤l.length+1
 |[],cur=>by rw[Lib.fieldsGo];split<;>simp
 |b::l,cur=>by
  rw[Lib.fieldsGo]
  have h1:=fields_le l []
  have h2:=fields_le l (cur++[b])
  split
  ·split
   ·simp only[List.length_cons];omega
   ·simp only[List.length_cons];omega
  ·simp only[List.length_cons];omega
theorem ok_fld:FOK NGs Ws 198 (tWs fldF):=by
 refine fok_calls' Tryz.func198 (by kernel_rfl) (by decide) ?_ rfl ?_
 ·intro R xs k
  simp only[tWs]
  split
  ·rw[Option.bind_assoc];rfl
  ·rfl
 ·intro xs r M vs hW h hr
  simp only[tWs] at h
  split at h
  ·rename_i s
   obtain⟨q,hq,h⟩:=Option.bind_eq_some_iff.1 h
   injection h with h
   subst h
   unfold fldF at hq
   obtain⟨hb,hq⟩:=bif_inv hq
   injection hq with hq
   subst hq
   simp only[Bool.and_eq_true,decide_eq_true_eq,List.all_eq_true] at hb
   obtain⟨v1,rfl,h1⟩:=relT1 hr
   simp only[RelD] at h1
   subst h1
   have hl:(Lib.fields s).length≤s.length+1:=fields_le s []
   refine (Any.strings_Fields Tryz.lays157 (by kernel_rfl) (by kernel_rfl) ⟨s.toArray⟩ M.w (by show s.toArray.size<_;rw[List.size_toArray];omega) (fun j b hj=>?_) hW.2.2).mono ?_
   ·exact hb.2 b (List.mem_of_getElem? hj)
   ·rintro e w' ⟨rfl,rfl⟩
    refine⟨_,rfl,fun b=>if b=M.w.heap.size then (Lib.fields s).length else M.U b,Move.mk0 (Below.alloc (Below.refl _ _) (Nat.le_refl _) _) (fun b hb=>if_neg (Nat.ne_of_lt hb)),?_⟩
    simp only[RelD]
    refine⟨_,_,(Lib.fields s).map fun x=>Value.string ⟨x.toArray⟩,rfl,Nat.le_refl _,by unfold maxLen;omega,fun b hb=>(by cases hb;rfl),fun h=>(by cases h),words_len _,words_rel _ _,Or.inr ⟨_,_,rfl,fun j u hu=>?_⟩⟩
    refine⟨?_,?_⟩
    ·rw[Nat.zero_add]
     have hp:RowP (M.w.alloc (.cells ((Lib.fields s).map fun x=>Value.string ⟨x.toArray⟩).toArray (Tryz.lays157_ren.t 9))) M.w.heap.size (Tryz.lays157_ren.t 9) ((Lib.fields s).map fun x=>Value.string ⟨x.toArray⟩):=⟨[],by
      show (M.w.heap.push _)[M.w.heap.size]? = _
      rw[Array.getElem?_push_size,List.append_nil]⟩
     exact hp.cell hu
    ·have:=(List.getElem?_eq_some_iff.1 hu).1
     rw[List.length_map] at this
     show 0+j<if M.w.heap.size=M.w.heap.size then _ else _
     rw[if_pos rfl]
     omega
  ·cases h
noncomputable def fIs:Func:=Tryz.f230
def hIs:Hints:=⟨[],[(0,⟨[(0,false),(1,false),(7,false),(8,false)],[]⟩)]⟩
def frIs (nl:Option Bool)(n:Nat)(c:List PV)(s:List UInt8)(L i:Int):St:=frame 19 [(0,(.sl nl 1 n c,0)),(1,(.str s,0)),(7,(.int .i64 L,0)),(8,(.int .i64 i,0))] []
noncomputable def isL (fu n:Nat)(st:St):Option PV:=loopF (en []) hIs fu false fIs [1,0,1,0] 0 n st
def ixT {R:Type}(n:Nat)(c:List PV)(i:Int)(K:List UInt8→Option R):Option R:=bif decide (0≤i)&&decide (i<(n:Int)) then ((c.drop (i.toNat * 1)).take 1).head?.bind fun v=>v.asStr.bind K else none
theorem stC_len' (a:List UInt8):(stC a).length=1:=rfl
theorem stG_inv' (l:List PV)(a:List UInt8)(h:stG l=some a):l=stC a:=by
 unfold stG at h
 split at h
 ·injection h with h;subst h;rfl
 ·cases h
theorem ixT_eq {R:Type}{l:List (List UInt8)}{i:Nat}{x:List UInt8}{K:List UInt8→Option R}(h:l[i]? = some x):ixT l.length (l.flatMap stC) (i:Int) K=K x:=by
 have:=(List.getElem?_eq_some_iff.1 h).1
 unfold ixT
 rw[cond_t (by rw[decide_eq_true (by omega),decide_eq_true (by omega)];rfl),Int.toNat_natCast,flat_at stC_len' h]
 rfl
theorem sis_raw (fu:Nat)(nl:Option Bool)(n:Nat)(c:List PV)(s:List UInt8):prun (en []) hIs fu false fIs [.sl nl 1 n c,.str s]=isL fu fu (frIs nl n c s (n:Int) 0):=prunN_eq.trans (by kernel_rfl)
theorem is_step (fu:Nat)(nl:Option Bool)(n:Nat)(c:List PV)(s:List UInt8)(L i:Int)(K:St→Option PV) :
  stepF (en []) hIs fu false fIs [1,0,1,0] (frIs nl n c s L i) (fun st=>pnorm (hIs.loop.lookup 0) st K) =
  bif decide (i<L) then ixT n c i fun a=>bif s==a then some (.int .i64 i) else K (frIs nl n c s L (IntKind.i64.wrap (i+1))) else some (.int .i64 (-1)):=by kernel_rfl
theorem is_loop (fu:Nat)(nl:Option Bool)(s:List UInt8)(l:List (List UInt8))(hl:l.length≤1000000):∀ (k i n:Nat),i+k=l.length→k<n →
  isL fu n (frIs nl l.length (l.flatMap stC) s (l.length:Int) (i:Int))=some (.int .i64 (isI (l.drop i) s i))
 |k,i,0,_,h=>by omega
 |0,i,n+1,hi,hn=>by
  unfold isL
  rw[loopF_succ,is_step,cond_f (decide_eq_false (by omega)),List.drop_of_length_le (by omega)]
  rfl
 |k+1,i,n+1,hi,hn=>by
  have hc:=List.getElem?_eq_getElem (l:=l) (i:=i) (by omega)
  rw[List.drop_eq_getElem_cons (show i<l.length by omega)]
  generalize l[i]=a at hc
  have ih:=is_loop fu nl s l hl k (i+1) n (by omega) (by omega)
  unfold isL at ih ⊢
  rw[loopF_succ,is_step,cond_t (decide_eq_true (by omega)),ixT_eq hc,wrapI_of (by omega) (by omega),isI]
  cases s==a
  ·exact ih
  ·rfl
theorem isI_any:∀ (l:List (List UInt8)) (s:List UInt8) (i:Int),0≤i→decide (0≤isI l s i)=l.any fun a=>s==a
 |[],_,_,_=>rfl
 |a::l,s,i,h=>by
  rw[isI,List.any_cons]
  cases s==a
  ·exact isI_any l s (i+1) (by omega)
  ·exact decide_eq_true h
theorem ok_idx {NG:Nat}{W:World→Prop}(hW:WOK NG W):FOK NG W 230 (tCi idxN):=by
 refine fok hW allOK_nil (h:=hIs) Tryz.func230 rfl (by decide) ?_ ?_
 ·intro R xs k
  simp only[tCi]
  split
  ·split
   ·rw[Option.bind_assoc];rfl
   ·rfl
  ·rfl
 ·intro xs r h
  simp only[tCi] at h
  split at h
  ·rename_i nl z n c s
   obtain⟨hz,h⟩:=ite_inv h
   subst hz
   obtain⟨b,hb,h⟩:=Option.bind_eq_some_iff.1 h
   injection h with h
   subst h
   unfold idxN at hb
   obtain⟨l,h1,hb⟩:=Option.bind_eq_some_iff.1 hb
   obtain⟨hg,hb⟩:=bif_inv hb
   injection hb with hb
   subst hb
   obtain⟨rfl,rfl⟩:=decG_inv stG_inv' h1
   exact⟨l.length+1,(sis_raw _ nl _ _ s).trans (is_loop _ nl s l (of_decide_eq_true hg) l.length 0 _ (by omega) (by omega))⟩
  ·cases h
theorem cn_raw (nl:Option Bool)(n:Nat)(c:List PV)(s:List UInt8):prun (en [(230,tCi idxN)]) ⟨[],[]⟩ 0 false Tryz.f184 [.sl nl 1 n c,.str s]=(idxN n c s).bind fun i=>some (.bool (decide (0≤i))):=by kernel_rfl
theorem ok_con {NG:Nat}{W:World→Prop}(hW:WOK NG W):FOK NG W 184 (tCn conN):=by
 refine fok hW (allOK_cons (ok_idx hW) allOK_nil) (h:=⟨[],[]⟩) Tryz.func184 rfl (by decide) ?_ ?_
 ·intro R xs k
  simp only[tCn]
  split
  ·split
   ·rw[Option.bind_assoc];rfl
   ·rfl
  ·rfl
 ·intro xs r h
  simp only[tCn] at h
  split at h
  ·rename_i nl z n c s
   obtain⟨hz,h⟩:=ite_inv h
   subst hz
   obtain⟨b,hb,h⟩:=Option.bind_eq_some_iff.1 h
   injection h with h
   subst h
   unfold conN at hb
   obtain⟨l,h1,hb⟩:=Option.bind_eq_some_iff.1 hb
   obtain⟨hg,hb⟩:=bif_inv hb
   injection hb with hb
   subst hb
   refine⟨0,(cn_raw nl n c s).trans ?_⟩
   unfold idxN
   rw[h1,Option.bind_some,hg,cond_true,Option.bind_some,isI_any l s 0 (by omega)]
   rfl
  ·cases h
theorem pdeps:PDeps NGs Ws fldF where
 w:=woks
 idx:=ok_idx woks
 con:=ok_con woks
 fields:=ok_fld
 bool:=evalFn_ok woks allOK_nil Tryz.func277 rfl (by decide)
theorem fok_wk {NG:Nat}{W:World→Prop}{f:FuncId}{p q:PFn}(hq:FOK NG W f q)(hn:p.nat)(ho:p.own=false)(h:∀ xs r,p.F xs (R:=PV) some=some r→q.F xs (R:=PV) some=some r):FOK NG W f p where
 nat:=hn
 call:=fun M xs vs r hW hng hg hr hF=>by
  have ho':∀ {P:Prop},p.own=true→P:=fun h=>by rw[ho] at h;cases h
  rcases hq.call M xs vs r hW hng hg hr (h xs r hF) with ⟨v,w',h1,U',h2,h3,-⟩|⟨h1,h2⟩
  ·exact .inl ⟨v,w',h1,U',h2,h3,ho'⟩
  ·exact .inr ⟨h1,h2.mono fun e w' ⟨v,k1,U',k2,k3,_⟩=>⟨v,k1,U',k2,k3,ho'⟩⟩
section
variable {NG:Nat} {W:World→Prop}
def tSB (f:List UInt8→Option (List UInt8×Bool)):PFn:=⟨fun xs k=>match xs with|[.str s]=>(f s).bind fun r=>k (.tuple [.str r.1,.bool r.2])|_=>none,false⟩
theorem tSB_nat (f:List UInt8→Option (List UInt8×Bool)):(tSB f).nat:=by
 intro R xs k
 simp only[tSB]
 split
 ·rw[Option.bind_assoc];rfl
 ·rfl
theorem fok_tSB (hW:WOK NG W){l:List (FuncId×PFn)}(hl:AllOK NG W l){lh:List (FuncId×HFn)}(hh:AllH NG W lh){h:Hints}{f:FuncId}{fn:Func}(hf:Tryz.prog.funcs[f]? = some fn)(hb:fn.body.isSome=true)(hname:fn.name ≠ "runtime.NumGoroutine"){g:List UInt8→Option (List UInt8×Bool)}(hr:∀ (s:List UInt8) r,(g s)=some r→∃ fu,prun (enH l lh []) h fu false fn [.str s]=some (.tuple [.str r.1,.bool r.2])):FOK NG W f (tSB g) :=
 fokH hW hl hh allI_nil (h:=h) hf hb hname (tSB_nat g) fun xs r h=>by
  simp only[tSB] at h
  split at h
  ·obtain⟨q,hq,h3⟩:=Option.bind_eq_some_iff.1 h
   obtain⟨fu,hr⟩:=hr _ _ hq
   exact⟨fu,hr.trans h3⟩
  ·cases h
def tSSB (f:List UInt8→List UInt8→Option (List UInt8×Bool)):PFn:=⟨fun xs k=>match xs with|[.str s,.str t]=>(f s t).bind fun r=>k (.tuple [.str r.1,.bool r.2])|_=>none,false⟩
theorem tSSB_nat (f:List UInt8→List UInt8→Option (List UInt8×Bool)):(tSSB f).nat:=by
 intro R xs k
 simp only[tSSB]
 split
 ·rw[Option.bind_assoc];rfl
 ·rfl
def tS3 (f:List UInt8→List UInt8→List UInt8→Option (List UInt8)):PFn:=⟨fun xs k=>match xs with|[.str s,.str t,.str u]=>(f s t u).bind fun r=>k (.str r)|_=>none,false⟩
theorem tS3_nat (f:List UInt8→List UInt8→List UInt8→Option (List UInt8)):(tS3 f).nat:=by
 intro R xs k
 simp only[tS3]
 split
 ·rw[Option.bind_assoc];rfl
 ·rfl
def tSSn (f:List UInt8→List UInt8→Option (Int)):PFn:=⟨fun xs k=>match xs with|[.str s,.str t]=>(f s t).bind fun r=>k (.int .i64 r)|_=>none,false⟩
theorem tSSn_nat (f:List UInt8→List UInt8→Option (Int)):(tSSn f).nat:=by
 intro R xs k
 simp only[tSSn]
 split
 ·rw[Option.bind_assoc];rfl
 ·rfl
def tBx (f:List UInt8→Int→Option (Int)):PFn:=⟨fun xs k=>match xs with|[.str s,.int .u8 c]=>(f s c).bind fun r=>k (.int .i64 r)|_=>none,false⟩
theorem tBx_nat (f:List UInt8→Int→Option (Int)):(tBx f).nat:=by
 intro R xs k
 simp only[tBx]
 split
 ·rw[Option.bind_assoc];rfl
 ·rfl
def tSSb (f:List UInt8→List UInt8→Option (Bool)):PFn:=⟨fun xs k=>match xs with|[.str s,.str t]=>(f s t).bind fun r=>k (.bool r)|_=>none,false⟩
theorem tSSb_nat (f:List UInt8→List UInt8→Option (Bool)):(tSSb f).nat:=by
 intro R xs k
 simp only[tSSb]
 split
 ·rw[Option.bind_assoc];rfl
 ·rfl
def tSv (f:List UInt8→Option (Val)):PFn:=⟨fun xs k=>match xs with|[.str s]=>(f s).bind fun r=>k (.agg [.int .i64 r.kind,.int .i64 r.n,.int .i64 r.scale,.str r.s])|_=>none,false⟩
theorem tSv_nat (f:List UInt8→Option (Val)):(tSv f).nat:=by
 intro R xs k
 simp only[tSv]
 split
 ·rw[Option.bind_assoc];rfl
 ·rfl
theorem fok_tSv (hW:WOK NG W){l:List (FuncId×PFn)}(hl:AllOK NG W l){lh:List (FuncId×HFn)}(hh:AllH NG W lh){h:Hints}{f:FuncId}{fn:Func}(hf:Tryz.prog.funcs[f]? = some fn)(hb:fn.body.isSome=true)(hname:fn.name ≠ "runtime.NumGoroutine"){g:List UInt8→Option (Val)}(hr:∀ (s:List UInt8) r,(g s)=some r→∃ fu,prun (enH l lh []) h fu false fn [.str s]=some (.agg [.int .i64 r.kind,.int .i64 r.n,.int .i64 r.scale,.str r.s])):FOK NG W f (tSv g) :=
 fokH hW hl hh allI_nil (h:=h) hf hb hname (tSv_nat g) fun xs r h=>by
  simp only[tSv] at h
  split at h
  ·obtain⟨q,hq,h3⟩:=Option.bind_eq_some_iff.1 h
   obtain⟨fu,hr⟩:=hr _ _ hq
   exact⟨fu,hr.trans h3⟩
  ·cases h
def tvB (f:Int→Int→Int→List UInt8→Option (Bool)):PFn:=⟨fun xs k=>match xs with|[.agg [.int .i64 a,.int .i64 n,.int .i64 c,.str s]]=>(f a n c s).bind fun r=>k (.bool r)|_=>none,false⟩
theorem tvB_nat (f:Int→Int→Int→List UInt8→Option (Bool)):(tvB f).nat:=by
 intro R xs k
 simp only[tvB]
 split
 ·rw[Option.bind_assoc];rfl
 ·rfl
theorem fok_tvB (hW:WOK NG W){l:List (FuncId×PFn)}(hl:AllOK NG W l){lh:List (FuncId×HFn)}(hh:AllH NG W lh){h:Hints}{f:FuncId}{fn:Func}(hf:Tryz.prog.funcs[f]? = some fn)(hb:fn.body.isSome=true)(hname:fn.name ≠ "runtime.NumGoroutine"){g:Int→Int→Int→List UInt8→Option (Bool)}(hr:∀ (a n c:Int) (s:List UInt8) r,(g a n c s)=some r→∃ fu,prun (enH l lh []) h fu false fn [.agg [.int .i64 a,.int .i64 n,.int .i64 c,.str s]]=some (.bool r)):FOK NG W f (tvB g) :=
 fokH hW hl hh allI_nil (h:=h) hf hb hname (tvB_nat g) fun xs r h=>by
  simp only[tvB] at h
  split at h
  ·obtain⟨q,hq,h3⟩:=Option.bind_eq_some_iff.1 h
   obtain⟨fu,hr⟩:=hr _ _ _ _ _ hq
   exact⟨fu,hr.trans h3⟩
  ·cases h
def tvS (f:Int→Int→Int→List UInt8→Option (List UInt8)):PFn:=⟨fun xs k=>match xs with|[.agg [.int .i64 a,.int .i64 n,.int .i64 c,.str s]]=>(f a n c s).bind fun r=>k (.str r)|_=>none,false⟩
theorem tvS_nat (f:Int→Int→Int→List UInt8→Option (List UInt8)):(tvS f).nat:=by
 intro R xs k
 simp only[tvS]
 split
 ·rw[Option.bind_assoc];rfl
 ·rfl
theorem fok_tvS (hW:WOK NG W){l:List (FuncId×PFn)}(hl:AllOK NG W l){lh:List (FuncId×HFn)}(hh:AllH NG W lh){h:Hints}{f:FuncId}{fn:Func}(hf:Tryz.prog.funcs[f]? = some fn)(hb:fn.body.isSome=true)(hname:fn.name ≠ "runtime.NumGoroutine"){g:Int→Int→Int→List UInt8→Option (List UInt8)}(hr:∀ (a n c:Int) (s:List UInt8) r,(g a n c s)=some r→∃ fu,prun (enH l lh []) h fu false fn [.agg [.int .i64 a,.int .i64 n,.int .i64 c,.str s]]=some (.str r)):FOK NG W f (tvS g) :=
 fokH hW hl hh allI_nil (h:=h) hf hb hname (tvS_nat g) fun xs r h=>by
  simp only[tvS] at h
  split at h
  ·obtain⟨q,hq,h3⟩:=Option.bind_eq_some_iff.1 h
   obtain⟨fu,hr⟩:=hr _ _ _ _ _ hq
   exact⟨fu,hr.trans h3⟩
  ·cases h
def tvv (f:Int→Int→Int→List UInt8→Option (Val)):PFn:=⟨fun xs k=>match xs with|[.agg [.int .i64 a,.int .i64 n,.int .i64 c,.str s]]=>(f a n c s).bind fun r=>k (.agg [.int .i64 r.kind,.int .i64 r.n,.int .i64 r.scale,.str r.s])|_=>none,false⟩
theorem tvv_nat (f:Int→Int→Int→List UInt8→Option (Val)):(tvv f).nat:=by
 intro R xs k
 simp only[tvv]
 split
 ·rw[Option.bind_assoc];rfl
 ·rfl
theorem fok_tvv (hW:WOK NG W){l:List (FuncId×PFn)}(hl:AllOK NG W l){lh:List (FuncId×HFn)}(hh:AllH NG W lh){h:Hints}{f:FuncId}{fn:Func}(hf:Tryz.prog.funcs[f]? = some fn)(hb:fn.body.isSome=true)(hname:fn.name ≠ "runtime.NumGoroutine"){g:Int→Int→Int→List UInt8→Option (Val)}(hr:∀ (a n c:Int) (s:List UInt8) r,(g a n c s)=some r→∃ fu,prun (enH l lh []) h fu false fn [.agg [.int .i64 a,.int .i64 n,.int .i64 c,.str s]]=some (.agg [.int .i64 r.kind,.int .i64 r.n,.int .i64 r.scale,.str r.s])):FOK NG W f (tvv g) :=
 fokH hW hl hh allI_nil (h:=h) hf hb hname (tvv_nat g) fun xs r h=>by
  simp only[tvv] at h
  split at h
  ·obtain⟨q,hq,h3⟩:=Option.bind_eq_some_iff.1 h
   obtain⟨fu,hr⟩:=hr _ _ _ _ _ hq
   exact⟨fu,hr.trans h3⟩
  ·cases h
def tD3 (f:List UInt8→Option (Int×Int×Bool)):PFn:=⟨fun xs k=>match xs with|[.str s]=>(f s).bind fun r=>k (.tuple [.int .i64 r.1,.int .i64 r.2.1,.bool r.2.2])|_=>none,false⟩
theorem tD3_nat (f:List UInt8→Option (Int×Int×Bool)):(tD3 f).nat:=by
 intro R xs k
 simp only[tD3]
 split
 ·rw[Option.bind_assoc];rfl
 ·rfl
def tDp (f:Int→Int→Option (List UInt8)):PFn:=⟨fun xs k=>match xs with|[.int .i64 n,.int .i64 m]=>(f n m).bind fun r=>k (.str r)|_=>none,false⟩
theorem tDp_nat (f:Int→Int→Option (List UInt8)):(tDp f).nat:=by
 intro R xs k
 simp only[tDp]
 split
 ·rw[Option.bind_assoc];rfl
 ·rfl
def tS1 (f:List UInt8→Option (List UInt8)):PFn:=⟨fun xs k=>match xs with|[.str s]=>(f s).bind fun r=>k (.str r)|_=>none,false⟩
theorem tS1_nat (f:List UInt8→Option (List UInt8)):(tS1 f).nat:=by
 intro R xs k
 simp only[tS1]
 split
 ·rw[Option.bind_assoc];rfl
 ·rfl
theorem fok_tS1 (hW:WOK NG W){l:List (FuncId×PFn)}(hl:AllOK NG W l){lh:List (FuncId×HFn)}(hh:AllH NG W lh){h:Hints}{f:FuncId}{fn:Func}(hf:Tryz.prog.funcs[f]? = some fn)(hb:fn.body.isSome=true)(hname:fn.name ≠ "runtime.NumGoroutine"){g:List UInt8→Option (List UInt8)}(hr:∀ (s:List UInt8) r,(g s)=some r→∃ fu,prun (enH l lh []) h fu false fn [.str s]=some (.str r)):FOK NG W f (tS1 g) :=
 fokH hW hl hh allI_nil (h:=h) hf hb hname (tS1_nat g) fun xs r h=>by
  simp only[tS1] at h
  split at h
  ·obtain⟨q,hq,h3⟩:=Option.bind_eq_some_iff.1 h
   obtain⟨fu,hr⟩:=hr _ _ hq
   exact⟨fu,hr.trans h3⟩
  ·cases h
def tTk (f:List UInt8→Option (TR×Int×Bool)):PFn:=⟨fun xs k=>match xs with|[.str s]=>(f s).bind fun r=>k (.tuple [.agg r.1.cells,.int .i64 r.2.1,.bool r.2.2])|_=>none,false⟩
theorem tTk_nat (f:List UInt8→Option (TR×Int×Bool)):(tTk f).nat:=by
 intro R xs k
 simp only[tTk]
 split
 ·rw[Option.bind_assoc];rfl
 ·rfl
theorem fok_tTk (hW:WOK NG W){l:List (FuncId×PFn)}(hl:AllOK NG W l){lh:List (FuncId×HFn)}(hh:AllH NG W lh){h:Hints}{f:FuncId}{fn:Func}(hf:Tryz.prog.funcs[f]? = some fn)(hb:fn.body.isSome=true)(hname:fn.name ≠ "runtime.NumGoroutine"){g:List UInt8→Option (TR×Int×Bool)}(hr:∀ (s:List UInt8) r,(g s)=some r→∃ fu,prun (enH l lh []) h fu false fn [.str s]=some (.tuple [.agg r.1.cells,.int .i64 r.2.1,.bool r.2.2])):FOK NG W f (tTk g) :=
 fokH hW hl hh allI_nil (h:=h) hf hb hname (tTk_nat g) fun xs r h=>by
  simp only[tTk] at h
  split at h
  ·obtain⟨q,hq,h3⟩:=Option.bind_eq_some_iff.1 h
   obtain⟨fu,hr⟩:=hr _ _ hq
   exact⟨fu,hr.trans h3⟩
  ·cases h
def tcB (f:Int→Option (Bool)):PFn:=⟨fun xs k=>match xs with|[.int .u8 c]=>(f c).bind fun r=>k (.bool r)|_=>none,false⟩
theorem tcB_nat (f:Int→Option (Bool)):(tcB f).nat:=by
 intro R xs k
 simp only[tcB]
 split
 ·rw[Option.bind_assoc];rfl
 ·rfl
theorem fok_tcB (hW:WOK NG W){l:List (FuncId×PFn)}(hl:AllOK NG W l){lh:List (FuncId×HFn)}(hh:AllH NG W lh){h:Hints}{f:FuncId}{fn:Func}(hf:Tryz.prog.funcs[f]? = some fn)(hb:fn.body.isSome=true)(hname:fn.name ≠ "runtime.NumGoroutine"){g:Int→Option (Bool)}(hr:∀ (c:Int) r,(g c)=some r→∃ fu,prun (enH l lh []) h fu false fn [.int .u8 c]=some (.bool r)):FOK NG W f (tcB g) :=
 fokH hW hl hh allI_nil (h:=h) hf hb hname (tcB_nat g) fun xs r h=>by
  simp only[tcB] at h
  split at h
  ·obtain⟨q,hq,h3⟩:=Option.bind_eq_some_iff.1 h
   obtain⟨fu,hr⟩:=hr _ _ hq
   exact⟨fu,hr.trans h3⟩
  ·cases h
def tBs (f:Nat→List PV→List UInt8→Option (Int×Bool)):PFn:=⟨fun xs k=>match xs with|[.sl _ z n c,.str s]=>if z=1 then (f n c s).bind fun r=>k (.tuple [.int .i64 r.1,.bool r.2]) else none|_=>none,false⟩
theorem tBs_nat (f:Nat→List PV→List UInt8→Option (Int×Bool)):(tBs f).nat:=by
 intro R xs k
 simp only[tBs]
 split
 ·split
  ·rw[Option.bind_assoc];rfl
  ·rfl
 ·rfl
def tWs0 (f:Option (Option Bool×Nat×List PV)):PFn:=⟨fun xs k=>match xs with|[]=>f.bind fun r=>k (.sl r.1 1 r.2.1 r.2.2)|_=>none,false⟩
theorem tWs0_nat (f:Option (Option Bool×Nat×List PV)):(tWs0 f).nat:=by
 intro R xs k
 simp only[tWs0]
 split
 ·rw[Option.bind_assoc];rfl
 ·rfl
theorem fok_tWs0 (hW:WOK NG W){l:List (FuncId×PFn)}(hl:AllOK NG W l){lh:List (FuncId×HFn)}(hh:AllH NG W lh){h:Hints}{f:FuncId}{fn:Func}(hf:Tryz.prog.funcs[f]? = some fn)(hb:fn.body.isSome=true)(hname:fn.name ≠ "runtime.NumGoroutine"){g:Option (Option Bool×Nat×List PV)}(hr:∀  r,g=some r→∃ fu,prun (enH l lh []) h fu false fn []=some (.sl r.1 1 r.2.1 r.2.2)):FOK NG W f (tWs0 g) :=
 fokH hW hl hh allI_nil (h:=h) hf hb hname (tWs0_nat g) fun xs r h=>by
  simp only[tWs0] at h
  split at h
  ·obtain⟨q,hq,h3⟩:=Option.bind_eq_some_iff.1 h
   obtain⟨fu,hr⟩:=hr _ hq
   exact⟨fu,hr.trans h3⟩
  ·cases h
def tSvb (f:List UInt8→Option (Val×Bool)):PFn:=⟨fun xs k=>match xs with|[.str s]=>(f s).bind fun r=>k (.tuple [.agg [.int .i64 r.1.kind,.int .i64 r.1.n,.int .i64 r.1.scale,.str r.1.s],.bool r.2])|_=>none,false⟩
theorem tSvb_nat (f:List UInt8→Option (Val×Bool)):(tSvb f).nat:=by
 intro R xs k
 simp only[tSvb]
 split
 ·rw[Option.bind_assoc];rfl
 ·rfl
theorem fok_tSvb (hW:WOK NG W){l:List (FuncId×PFn)}(hl:AllOK NG W l){lh:List (FuncId×HFn)}(hh:AllH NG W lh){h:Hints}{f:FuncId}{fn:Func}(hf:Tryz.prog.funcs[f]? = some fn)(hb:fn.body.isSome=true)(hname:fn.name ≠ "runtime.NumGoroutine"){g:List UInt8→Option (Val×Bool)}(hr:∀ (s:List UInt8) r,(g s)=some r→∃ fu,prun (enH l lh []) h fu false fn [.str s]=some (.tuple [.agg [.int .i64 r.1.kind,.int .i64 r.1.n,.int .i64 r.1.scale,.str r.1.s],.bool r.2])):FOK NG W f (tSvb g) :=
 fokH hW hl hh allI_nil (h:=h) hf hb hname (tSvb_nat g) fun xs r h=>by
  simp only[tSvb] at h
  split at h
  ·obtain⟨q,hq,h3⟩:=Option.bind_eq_some_iff.1 h
   obtain⟨fu,hr⟩:=hr _ _ hq
   exact⟨fu,hr.trans h3⟩
  ·cases h
end
def hasX (s:List UInt8):Bool:=s.head? == some 88
def noX (s:List UInt8):List UInt8:=bif hasX s then s.drop 1 else s
def p_hasX:PFn:=⟨fun xs k=>match xs with|[.str s,.str [88]]=>k (.bool (hasX s))|_=>none,false⟩
theorem hasX_raw (s:List UInt8):prun (en []) ⟨[],[]⟩ 0 false Tryz.f242 [.str s,.str [88]] =
  bif decide (1≤(s.length:Int)) then bif decide (1≤(s.length:Int)) then some (.bool ((s.take 1).drop 0==[88])) else none else some (.bool false):=by kernel_rfl
theorem ok_hasX:FOK NGs Ws 242 p_hasX:=by
 refine fok woks allOK_nil (h:=⟨[],[]⟩) Tryz.func242 rfl (by decide) ?_ ?_
 ·intro R xs k
  simp only[p_hasX]
  split<;>rfl
 ·intro xs r h
  simp only[p_hasX] at h
  split at h
  ·rename_i s
   refine⟨0,(hasX_raw s).trans ?_⟩
   rw[← h]
   cases s with
   |nil=>rfl
   |cons c t =>
    rw[cond_t (decide_eq_true (by simp;omega)),cond_t (decide_eq_true (by simp;omega))]
    simp[hasX]
  ·cases h
def p_CutX:PFn:=⟨fun xs k=>match xs with|[.str s,.str [88]]=>k (.tuple [.str (noX s),.bool (hasX s)])|_=>none,false⟩
theorem cutx_raw (s:List UInt8):prun (en [(242,p_hasX)]) ⟨[],[]⟩ 0 false Tryz.f217 [.str s,.str [88]] =
  bif !hasX s then some (.tuple [.str s,.bool false]) else bif decide (1≤(s.length:Int)) then some (.tuple [.str ((s.take s.length).drop 1),.bool true]) else none:=by kernel_rfl
theorem ok_CutXl:FOK NGs Ws 217 p_CutX:=by
 refine fok woks (allOK_cons ok_hasX allOK_nil) (h:=⟨[],[]⟩) Tryz.func217 rfl (by decide) ?_ ?_
 ·intro R xs k
  simp only[p_CutX]
  split<;>rfl
 ·intro xs r h
  simp only[p_CutX] at h
  split at h
  ·rename_i s
   refine⟨0,(cutx_raw s).trans ?_⟩
   rw[← h]
   unfold noX
   cases hm:hasX s
   ·rfl
   ·have:s≠[]:=by intro e;subst e;cases hm
    have hl:0<s.length:=List.length_pos_iff.2 this
    simp only[Bool.not_true,cond_false,cond_true]
    rw[cond_t (decide_eq_true (by omega)),List.take_length]
  ·cases h
theorem cutxo_raw (s:List UInt8):prun (en [(217,p_CutX)]) ⟨[],[]⟩ 0 false Tryz.f164 [.str s,.str [88]]=some (.tuple [.str (noX s),.bool (hasX s)]):=by kernel_rfl
theorem ok_CutX:FOK NGs Ws 164 p_CutX:=by
 refine fok woks (allOK_cons ok_CutXl allOK_nil) (h:=⟨[],[]⟩) Tryz.func164 rfl (by decide) ?_ ?_
 ·intro R xs k
  simp only[p_CutX]
  split<;>rfl
 ·intro xs r h
  simp only[p_CutX] at h
  split at h
  ·rename_i s
   exact⟨0,(cutxo_raw s).trans h⟩
  ·cases h
def hasDot (s:List UInt8):Bool:=bif decide (1≤s.length) then s.drop (s.length-1)==[46] else false
def noDot (s:List UInt8):List UInt8:=bif hasDot s then s.take (s.length-1) else s
def p_hasDot:PFn:=⟨fun xs k=>match xs with|[.str s,.str [46]]=>bif decide (s.length≤100000) then k (.bool (hasDot s)) else none|_=>none,false⟩
theorem hasDot_raw (s:List UInt8):prun (en []) ⟨[],[]⟩ 0 false Tryz.f300 [.str s,.str [46]] =
  bif decide ((([46]:List UInt8).length:Int)≤(s.length:Int)) then bif decide (0≤IntKind.i64.wrap ((s.length:Int)-(([46]:List UInt8).length:Int)))&&decide (IntKind.i64.wrap ((s.length:Int)-(([46]:List UInt8).length:Int))≤(s.length:Int)) then
   some (.bool ((s.take s.length).drop (IntKind.i64.wrap ((s.length:Int)-(([46]:List UInt8).length:Int))).toNat==[46])) else none else some (.bool false):=by kernel_rfl
theorem ok_hasDot:FOK NGs Ws 300 p_hasDot:=by
 refine fok woks allOK_nil (h:=⟨[],[]⟩) Tryz.func300 rfl (by decide) ?_ ?_
 ·intro R xs k
  simp only[p_hasDot]
  split
  ·exact cond_nat
  ·rfl
 ·intro xs r h
  simp only[p_hasDot] at h
  split at h
  ·rename_i s
   obtain⟨hb,h⟩:=bif_inv h
   have hb:=of_decide_eq_true hb
   refine⟨0,(hasDot_raw s).trans ?_⟩
   rw[← h]
   unfold hasDot
   by_cases hl:1≤s.length
   ·rw[cond_t (decide_eq_true (show ((([46]:List UInt8).length:Nat):Int)≤(s.length:Int) by simp;omega)),decide_eq_true hl,cond_true,wrapI_of (by simp;omega) (by simp;omega)]
    have e:((s.length:Int)-(([46]:List UInt8).length:Int))=((s.length-1:Nat):Int):=by simp;omega
    rw[e,cond_t (by simp only[Bool.and_eq_true,decide_eq_true_eq];omega),Int.toNat_natCast,List.take_length]
   ·rw[cond_f (decide_eq_false (by simp;omega)),decide_eq_false hl,cond_false]
  ·cases h
def p_CutD:PFn:=⟨fun xs k=>match xs with|[.str s,.str [46]]=>bif decide (s.length≤100000) then k (.tuple [.str (noDot s),.bool (hasDot s)]) else none|_=>none,false⟩
theorem cutd_raw (s:List UInt8):prun (en [(300,p_hasDot)]) ⟨[],[]⟩ 0 false Tryz.f289 [.str s,.str [46]] =
  bif decide (s.length≤100000) then (bif !hasDot s then some (.tuple [.str s,.bool false]) else bif decide (0≤IntKind.i64.wrap ((s.length:Int)-(([46]:List UInt8).length:Int)))&&decide (IntKind.i64.wrap ((s.length:Int)-(([46]:List UInt8).length:Int))≤(s.length:Int)) then
   some (.tuple [.str ((s.take (IntKind.i64.wrap ((s.length:Int)-(([46]:List UInt8).length:Int))).toNat).drop 0),.bool true]) else none) else none:=by kernel_rfl
theorem ok_CutDl:FOK NGs Ws 289 p_CutD:=by
 refine fok woks (allOK_cons ok_hasDot allOK_nil) (h:=⟨[],[]⟩) Tryz.func289 rfl (by decide) ?_ ?_
 ·intro R xs k
  simp only[p_CutD]
  split
  ·exact cond_nat
  ·rfl
 ·intro xs r h
  simp only[p_CutD] at h
  split at h
  ·rename_i s
   refine⟨0,(cutd_raw s).trans ?_⟩
   obtain⟨hb,h⟩:=bif_inv h
   rw[hb,cond_true,← h]
   have hb:=of_decide_eq_true hb
   unfold noDot
   cases hm:hasDot s
   ·rfl
   ·have hl:1≤s.length:=by
     unfold hasDot at hm
     by_cases hl:1≤s.length
     ·exact hl
     ·rw[decide_eq_false hl] at hm;cases hm
    have e:((s.length:Int)-(([46]:List UInt8).length:Int))=((s.length-1:Nat):Int):=by simp;omega
    simp only[Bool.not_true,cond_false,cond_true]
    rw[wrapI_of (by simp;omega) (by simp;omega),e,cond_t (by simp only[Bool.and_eq_true,decide_eq_true_eq];omega),Int.toNat_natCast]
    rfl
  ·cases h
theorem cutdo_raw (s:List UInt8):prun (en [(289,p_CutD)]) ⟨[],[]⟩ 0 false Tryz.f272 [.str s,.str [46]]=bif decide (s.length≤100000) then some (.tuple [.str (noDot s),.bool (hasDot s)]) else none:=by kernel_rfl
theorem ok_CutD:FOK NGs Ws 272 p_CutD:=by
 refine fok woks (allOK_cons ok_CutDl allOK_nil) (h:=⟨[],[]⟩) Tryz.func272 rfl (by decide) ?_ ?_
 ·intro R xs k
  simp only[p_CutD]
  split
  ·exact cond_nat
  ·rfl
 ·intro xs r h
  simp only[p_CutD] at h
  split at h
  ·rename_i s
   exact⟨0,(cutdo_raw s).trans h⟩
  ·cases h
def catS {R:Type}(x y:List UInt8)(k:List UInt8→Option R):Option R:=bif decide (x.length+y.length≤9223372036854775807) then k (x++y) else none
theorem catS_eq {R:Type}{x y:List UInt8}{k:List UInt8→Option R}(h:x.length+y.length≤1000000000):catS x y k=k (x++y):=by
 unfold catS
 rw[cond_t (decide_eq_true (by omega))]
theorem catS_bind {α β:Type}{x y:List UInt8}{k:List UInt8→Option α}{g:α→Option β}:(catS x y k).bind g=catS x y fun z=>(k z).bind g:=by unfold catS;rw[cond_bindo];rfl
theorem ixB_bind {α β:Type}{s:List UInt8}{i:Int}{k:UInt8→Option α}{g:α→Option β}:(ixB s i k).bind g=ixB s i fun z=>(k z).bind g:=by unfold ixB;rw[cond_bindo,Option.bind_assoc];rfl
theorem none_bindo {α β:Type}{g:α→Option β}:(none:Option α).bind g=none:=rfl
def quotO {R:Type}(fr:List UInt8→List UInt8→List UInt8→Option (List UInt8))(fn:List UInt8→List UInt8→Option Int)(s:List UInt8)(k:List UInt8→Bool→Option R):Option R :=
 bif !decide ((s.length:Int)<2) then ixB s 0 fun v=>bif !!((v.toNat:Int)==39) then ixB s (IntKind.i64.wrap ((s.length:Int)-1)) fun v=>bif !((v.toNat:Int)==39) then k [] false else
  bif decide (0≤IntKind.i64.wrap ((s.length:Int)-1))&&decide (IntKind.i64.wrap ((s.length:Int)-1)≤(s.length:Int)) then bif decide ((1:Int)≤((IntKind.i64.wrap ((s.length:Int)-1)).toNat:Int)) then
   (fr ((s.take (IntKind.i64.wrap ((s.length:Int)-1)).toNat).drop 1) [39,39] [39]).bind fun y=>(fn ((s.take (IntKind.i64.wrap ((s.length:Int)-1)).toNat).drop 1) [39]).bind fun a=>(fn y [39]).bind fun b=>k y (a==IntKind.i64.wrap (2 * b))
  else none else none
  else k [] false else k [] false
theorem vquoted_raw (fr:List UInt8→List UInt8→List UInt8→Option (List UInt8))(fn:List UInt8→List UInt8→Option Int)(fu:Nat)(s:List UInt8) :
  prun (enH [(215,tS3 fr),(263,tSSn fn)] [] []) hh0 fu false Tryz.f270 [.str s]=quotO fr fn s fun a b=>some (.tuple [.str a,.bool b]):=by kernel_rfl
def candO {R:Type}(fx:List UInt8→List UInt8→Option (List UInt8×Bool))(fq fh:List UInt8→Option (List UInt8×Bool))(fd:List UInt8→List UInt8→Option (List UInt8×Bool))(fp:List UInt8→Option (Int×Int×Bool))(s:List UInt8)(k:Val→Option R):Option R :=
 let E:Option R:=(fq s).bind fun q=>bif q.2 then k ⟨4,0,0,q.1⟩ else (fd s [46]).bind fun d=>bif d.2 then (fp d.1).bind fun p=>k ⟨3,p.1,0,[]⟩ else (fp s).bind fun p=>bif !p.2.2 then k ⟨0,0,0,[]⟩ else bif decide (0<p.2.1) then k ⟨3,p.1,p.2.1,[]⟩ else k ⟨2,p.1,0,[]⟩
 bif s==[84,82,85,69] then k ⟨1,1,0,[]⟩ else bif s==[70,65,76,83,69] then k ⟨1,0,0,[]⟩ else
 (fx s [88]).bind fun x=>bif x.2 then (fq x.1).bind fun q=>bif q.2 then (fh q.1).bind fun b=>k ⟨5,0,0,b.1⟩ else E else E
abbrev valE (r:Val):PV:=.agg [.int .i64 r.kind,.int .i64 r.n,.int .i64 r.scale,.str r.s]
theorem cand_raw (fx:List UInt8→List UInt8→Option (List UInt8×Bool))(fq fh:List UInt8→Option (List UInt8×Bool))(fd:List UInt8→List UInt8→Option (List UInt8×Bool))(fp:List UInt8→Option (Int×Int×Bool))(fu:Nat)(s:List UInt8) :
  prun (enH [(164,tSSB fx),(270,tSB fq),(271,tSB fh),(272,tSSB fd),(220,tD3 fp)] [] []) hh0 fu false Tryz.f247 [.str s] =
   candO fx fq fh fd fp s fun r=>some (valE r):=by kernel_rfl
def rightO {R:Type}(fr:Int→Int→Int→List UInt8→Option Bool)(a n c:Int)(s:List UInt8)(k:Val→Option R):Option R:=(fr a n c s).bind fun b=>bif !b then k ⟨0,0,0,[]⟩ else k ⟨a,n,c,s⟩
theorem vrt_raw (fr:Int→Int→Int→List UInt8→Option Bool)(fu:Nat)(a n c:Int)(s:List UInt8) :
  prun (enH [(231,tvB fr)] [] []) hh0 fu false Tryz.f214 [.agg [.int .i64 a,.int .i64 n,.int .i64 c,.str s]]=rightO fr a n c s fun r=>some (valE r):=by kernel_rfl
def prinO {R:Type}(fv:Int→Int→Int→List UInt8→Option Val)(fr:List UInt8→List UInt8→List UInt8→Option (List UInt8))(fh:List UInt8→Option (List UInt8))(fd:Int→Int→Option (List UInt8))(a n c:Int)(s:List UInt8)(k:List UInt8→Option R):Option R :=
 (fv a n c s).bind fun v=>bif v.kind==1 then (bif v.n==1 then k [84,82,85,69] else k [70,65,76,83,69]) else bif v.kind==2 then (fd v.n 0).bind k else bif v.kind==3 then (bif v.scale==0 then (fd v.n 0).bind fun x=>catS x [46] k else (fd v.n v.scale).bind k) else
  bif v.kind==4 then (fr v.s [39] [39,39]).bind fun x=>catS [39] x fun y=>catS y [39] k else bif v.kind==5 then (fh v.s).bind fun x=>catS [88,39] x fun y=>catS y [39] k else k [78,85,76,76]
theorem vprint_raw (fv:Int→Int→Int→List UInt8→Option Val)(fr:List UInt8→List UInt8→List UInt8→Option (List UInt8))(fh:List UInt8→Option (List UInt8))(fd:Int→Int→Option (List UInt8))(fu:Nat)(a n c:Int)(s:List UInt8) :
  prun (enH [(214,tvv fv),(215,tS3 fr),(216,tS1 fh),(83,tDp fd)] [] []) hh0 fu false Tryz.f160 [.agg [.int .i64 a,.int .i64 n,.int .i64 c,.str s]]=prinO fv fr fh fd a n c s fun r=>some (.str r):=by kernel_rfl
def vparO {R:Type}(fc:List UInt8→Option Val)(fr:Int→Int→Int→List UInt8→Option Bool)(fp:Int→Int→Int→List UInt8→Option (List UInt8))(s:List UInt8)(k:Val→Bool→Option R):Option R :=
 (fc s).bind fun v=>(fr v.kind v.n v.scale v.s).bind fun b=>bif !!b then (fp v.kind v.n v.scale v.s).bind fun t=>bif !(t==s) then k ⟨0,0,0,[]⟩ false else k v true else k ⟨0,0,0,[]⟩ false
theorem vparse_raw (fc:List UInt8→Option Val)(fr:Int→Int→Int→List UInt8→Option Bool)(fp:Int→Int→Int→List UInt8→Option (List UInt8))(fu:Nat)(s:List UInt8) :
  prun (enH [(247,tSv fc),(231,tvB fr),(160,tvS fp)] [] []) hh0 fu false Tryz.f219 [.str s]=vparO fc fr fp s fun r b=>some (.tuple [valE r,.bool b]):=by kernel_rfl
def litO {R:Type}(fp:List UInt8→Option (Val×Bool))(s:List UInt8)(k:TR→Int→Bool→Option R):Option R:=(fp s).bind fun r=>k ⟨2,0,[],r.1.kind,r.1.n,r.1.scale,r.1.s⟩ (s.length:Int) (r.2&&!(s==[]))
theorem llit_raw (fp:List UInt8→Option (Val×Bool))(fu:Nat)(s:List UInt8) :
  prun (enH [(219,tSvb fp)] [] []) hh0 fu false Tryz.f169 [.str s]=litO fp s fun r n b=>some (.tuple [.agg r.cells,.int .i64 n,.bool b]):=by kernel_rfl
def hxD:List UInt8:=[48,49,50,51,52,53,54,55,56,57,65,66,67,68,69,70]
def rmB {R:Type}(l m:Nat)(x:Option R):Option R:=bif decide (l+m≤9223372036854775807)&&decide ((l+m) * 1≤140737488355328) then x else none
theorem rmB_eq {R:Type}{l m:Nat}{x:Option R}(h:l+m≤1000000):rmB l m x=x:=by
 unfold rmB
 rw[cond_t (by rw[decide_eq_true (by omega),decide_eq_true (by omega)];rfl)]
noncomputable def fHx:Func:=Tryz.f216
def hHx:Hints:=⟨[],[(0,⟨[(0,false),(3,true),(6,false),(7,false)],[]⟩)]⟩
def frHx (s:List UInt8)(no:Option Bool)(lo:Nat)(co:List PV)(L i:Int):St:=frame 26 [(0,(.str s,0)),(3,(.sl no 1 lo co,31)),(6,(.int .i64 L,0)),(7,(.int .i64 i,0))] []
noncomputable def hxL (fu n:Nat)(st:St):Option PV:=loopF (enH [] [] []) hHx fu false fHx [1,1,0,1,0] 0 n st
theorem hx_raw (fu:Nat)(s:List UInt8):prun (enH [] [] []) hHx fu false fHx [.str s]=hxL fu fu (frHx s (some true) 0 [] (s.length:Int) 0):=prunN_eq.trans (by kernel_rfl)
theorem hx_step (fu:Nat)(s:List UInt8)(no:Option Bool)(lo:Nat)(co:List PV)(L i:Int)(K:St→Option PV) :
  stepF (enH [] [] []) hHx fu false fHx [1,1,0,1,0] (frHx s no lo co L i) (fun st=>pnorm (hHx.loop.lookup 0) st K) =
  bif decide (i<L) then ixB s i fun v=>ixB hxD ((v.toNat:Int).fdiv (2^(min (4:Int).toNat IntKind.u8.bits))) fun a=>ixB s i fun w=>ixB hxD (IntKind.u8.wrap (BitVec.ofInt IntKind.u8.bits (w.toNat:Int) &&& BitVec.ofInt IntKind.u8.bits 15).toNat) fun b =>
   rmB lo 2 (K (frHx s (no.map (· && false)) (lo+2) (co++[bytePV a,bytePV b]) L (IntKind.i64.wrap (i+1)))) else (pbytes co).bind fun r=>some (.str r):=by kernel_rfl
noncomputable def fUh:Func:=Tryz.f271
def hUh:Hints:=⟨[],[(0,⟨[(0,false),(4,true),(5,false)],[]⟩)]⟩
def frUh (s:List UInt8)(no:Option Bool)(lo:Nat)(co:List PV)(i:Int):St:=frame 43 [(0,(.str s,0)),(4,(.sl no 1 lo co,49)),(5,(.int .i64 i,0))] []
noncomputable def enUh (fi:List UInt8→Int→Option Int):Env:=enH [(288,tBx fi)] [] []
noncomputable def uhL (fi:List UInt8→Int→Option Int)(fu n:Nat)(st:St):Option PV:=loopF (enUh fi) hUh fu false fUh [1,1,1,0,1,0] 0 n st
def failS:Option PV:=some (.tuple [.str [],.bool false])
theorem uh_raw (fi:List UInt8→Int→Option Int)(fu:Nat)(s:List UInt8):prun (enUh fi) hUh fu false fUh [.str s]=bif !((s.length:Int).tmod 2==0) then failS else uhL fi fu fu (frUh s (some true) 0 [] 0):=prunN_eq.trans (by kernel_rfl)
theorem uh_step (fi:List UInt8→Int→Option Int)(fu:Nat)(s:List UInt8)(no:Option Bool)(lo:Nat)(co:List PV)(i:Int)(K:St→Option PV) :
  stepF (enUh fi) hUh fu false fUh [1,1,1,0,1,0] (frUh s no lo co i) (fun st=>pnorm (hUh.loop.lookup 0) st K) =
  bif decide (i<(s.length:Int)) then ixB s i fun v=>(fi hxD (v.toNat:Int)).bind fun a=>ixB s (IntKind.i64.wrap (i+1)) fun w=>(fi hxD (w.toNat:Int)).bind fun b =>
   bif (bif decide (a<0) then true else decide (b<0)) then failS else (rmB lo 1 (K (frUh s (no.map (· && false)) (lo+1) (co++[.int .u8 (IntKind.u8.wrap (IntKind.i64.wrap (BitVec.ofInt IntKind.i64.bits (IntKind.i64.wrap (a * 2^(min (4:Int).toNat IntKind.i64.bits))) ||| BitVec.ofInt IntKind.i64.bits b).toNat))]) (IntKind.i64.wrap (i+2)))))
  else (pbytes co).bind fun r=>some (.tuple [.str r,.bool true]):=by kernel_rfl
def hxN (n:Nat):UInt8:=hxD.getD n 0
def hexV (s:List UInt8):List UInt8:=s.flatMap fun v=>[hxN (v.toNat/16),hxN (v.toNat%16)]
theorem shr4:∀ n:Fin 256,((n.val:Int).fdiv (2^(min (4:Int).toNat IntKind.u8.bits)))=((n.val/16:Nat):Int):=by decide
theorem and15:∀ n:Fin 256,(IntKind.u8.wrap (BitVec.ofInt IntKind.u8.bits (n.val:Int) &&& BitVec.ofInt IntKind.u8.bits 15).toNat)=((n.val%16:Nat):Int):=by decide
theorem hxD_at {R:Type}{n:Nat}(h:n<16){K:UInt8→Option R}:ixB hxD (n:Int) K=K (hxN n):=by
 refine ixB_eq ?_
 unfold hxN
 rw[List.getD_eq_getElem?_getD,List.getElem?_eq_getElem (show n<hxD.length from h)]
 rfl
theorem pbytes_map (l:List UInt8):pbytes (l.map bytePV)=some l:=by
 induction l with
 |nil=>rfl
 |cons a l ih =>
  rw[List.map_cons,pbytes,ih]
  show ((some ((a.toNat:Nat):Int)).bind fun n=>(some l).bind fun l=>some (UInt8.ofNat n.toNat::l))=_
  simp
theorem hx_loop (fu:Nat)(s:List UInt8)(hs:s.length≤100000):∀ (k i n:Nat),i+k=s.length→k<n →
  hxL fu n (frHx s (some (decide (i=0))) (2 * i) ((hexV (s.take i)).map bytePV) (s.length:Int) (i:Int))=some (.str (hexV s))
 |k,i,0,_,h=>by omega
 |0,i,n+1,hi,hn=>by
  unfold hxL
  rw[loopF_succ,hx_step,cond_f (decide_eq_false (by omega)),pbytes_map,List.take_of_length_le (by omega)]
  rfl
 |k+1,i,n+1,hi,hn=>by
  have hc:=List.getElem?_eq_getElem (l:=s) (i:=i) (by omega)
  have ih:=hx_loop fu s hs k (i+1) n (by omega) (by omega)
  have ht:s.take (i+1)=s.take i++[s[i]'(by omega)]:=List.take_succ_eq_append_getElem (by omega)
  rw[ht] at ih
  generalize s[i]'(by omega)=v at hc ih
  unfold hxL at ih ⊢
  have hv:=v.toNat_lt
  rw[loopF_succ,hx_step,cond_t (decide_eq_true (by omega)),ixB_eq hc,shr4 ⟨v.toNat,hv⟩,hxD_at (by omega),ixB_eq hc,and15 ⟨v.toNat,hv⟩,hxD_at (by omega),rmB_eq (by omega),wrapI_of (by omega) (by omega)]
  refine Eq.trans ?_ ih
  congr 2
  ·show (some _)=some _
   congr 1
   show (decide (i=0)&&false)=_
   rw[Bool.and_false]
   exact (decide_eq_false (by omega)).symm
  ·unfold hexV
   rw[List.flatMap_append,List.map_append]
   rfl
def hexD (s:List UInt8):Option (List UInt8):=bif decide (s.length≤100000) then some (hexV s) else none
theorem ok_hex:FOK NGs Ws 216 (tS1 hexD):=fok_tS1 woks allOK_nil allH_nil (h:=hHx) Tryz.func216 rfl (by decide) fun s r h=>by
 unfold hexD at h
 obtain⟨hs,h⟩:=bif_inv h
 injection h with h
 subst h
 have hs:=of_decide_eq_true hs
 exact⟨s.length+1,(hx_raw _ s).trans (hx_loop _ s hs s.length 0 _ (by omega) (by omega))⟩
def hxI (c:UInt8):Int:=Lib.indexByte hxD c
theorem hxI_all:∀ n:Fin 256,-1≤hxI (UInt8.ofNat n.val)∧hxI (UInt8.ofNat n.val)<16:=by decide
theorem hxI_ge (c:UInt8):-1≤hxI c∧hxI c<16:=by
 have:=hxI_all ⟨c.toNat,c.toNat_lt⟩
 rwa [UInt8.ofNat_toNat] at this
theorem or4:∀ a b:Fin 16,(IntKind.u8.wrap (IntKind.i64.wrap (BitVec.ofInt IntKind.i64.bits (IntKind.i64.wrap ((a.val:Int) * 2^(min (4:Int).toNat IntKind.i64.bits))) ||| BitVec.ofInt IntKind.i64.bits (b.val:Int)).toNat))=((16 * a.val+b.val:Nat):Int):=by decide
def unhV:List UInt8→Option (List UInt8)
 |[]=>some []
 |[_]=>none
 |a::b::t=>bif decide (hxI a<0)||decide (hxI b<0) then none else (unhV t).map fun l=>UInt8.ofNat (16 * (hxI a).toNat+(hxI b).toNat)::l
def ixbD (s:List UInt8)(c:Int):Option Int:=some (Lib.indexByte s c.toNat.toUInt8)
theorem unh_odd:∀ (k:Nat) (s:List UInt8),s.length≤k→s.length%2=1→unhV s=none
 |_,[],_,h=>by cases h
 |_,[_],_,_=>rfl
 |0,a::b::t,h,_=>by simp at h
 |k+1,a::b::t,h,h1=>by
  rw[unhV,unh_odd k t (by simp at h;omega) (by simp only[List.length_cons] at h1;omega)]
  cases decide (hxI a<0)||decide (hxI b<0)<;>rfl
def unhE (acc:List UInt8)(o:Option (List UInt8)):PV:=match o with
 |none=>.tuple [.str [],.bool false]
 |some l=>.tuple [.str (acc++l),.bool true]
theorem uh_loop (fu:Nat)(s:List UInt8)(hs:s.length≤100000)(h2:s.length%2=0):∀ (k i n:Nat) (acc:List UInt8),2 * i+2 * k=s.length→k<n→acc.length=i →
  uhL ixbD fu n (frUh s (some (decide (i=0))) i (acc.map bytePV) ((2 * i:Nat):Int))=some (unhE acc (unhV (s.drop (2 * i))))
 |k,i,0,_,_,h,_=>by omega
 |0,i,n+1,acc,hi,hn,ha=>by
  unfold uhL
  rw[loopF_succ,uh_step,cond_f (decide_eq_false (by omega)),pbytes_map,List.drop_of_length_le (by omega)]
  simp only[unhV,unhE,List.append_nil,Option.bind_some]
 |k+1,i,n+1,acc,hi,hn,ha=>by
  have hc:=List.getElem?_eq_getElem (l:=s) (i:=2 * i) (by omega)
  have hc2:=List.getElem?_eq_getElem (l:=s) (i:=2 * i+1) (by omega)
  rw[List.drop_eq_getElem_cons (show 2 * i<s.length by omega),List.drop_eq_getElem_cons (show 2 * i+1<s.length by omega)]
  generalize s[2 * i]'(by omega)=a at hc
  generalize s[2 * i+1]'(by omega)=b at hc2
  have e1:((2 * i:Nat):Int)+1=((2 * i+1:Nat):Int):=by omega
  have e2:((2 * i:Nat):Int)+2=((2 * (i+1):Nat):Int):=by omega
  have ga:=hxI_ge a
  have gb:=hxI_ge b
  have ei:∀ c:UInt8,ixbD hxD ((c.toNat:Nat):Int)=some (hxI c):=fun c=>by
   unfold ixbD hxI
   rw[Int.toNat_natCast,show (c.toNat).toUInt8=c from UInt8.ofNat_toNat]
  unfold uhL
  rw[loopF_succ,uh_step,cond_t (decide_eq_true (by omega)),ixB_eq hc,ei,Option.bind_some,wrapI_of (by omega) (by omega),e1,ixB_eq hc2,ei,Option.bind_some,unhV]
  by_cases ha0:hxI a<0
  ·rw[decide_eq_true ha0];rfl
  by_cases hb0:hxI b<0
  ·rw[decide_eq_true hb0,decide_eq_false ha0];rfl
  rw[decide_eq_false ha0,decide_eq_false hb0,cond_false,cond_false,rmB_eq (by omega)]
  obtain⟨x,hx⟩:∃ x:Fin 16,hxI a=(x.val:Int):=⟨⟨(hxI a).toNat,by omega⟩,by simp;omega⟩
  obtain⟨y,hy⟩:∃ y:Fin 16,hxI b=(y.val:Int):=⟨⟨(hxI b).toNat,by omega⟩,by simp;omega⟩
  rw[hx,hy,or4,wrapI_of (by omega) (by omega),e2]
  have ih:=uh_loop fu s hs h2 k (i+1) n (acc++[UInt8.ofNat (16 * x.val+y.val)]) (by omega) (by omega) (by rw[List.length_append,ha];rfl)
  unfold uhL at ih
  rw[show 2 * i+1+1=2 * (i+1) by omega]
  refine Eq.trans ?_ (ih.trans ?_)
  ·congr 2
   ·show (some (decide (i=0)&&false))=some _
    rw[Bool.and_false,decide_eq_false (show ¬ i+1=0 by omega)]
   ·rw[List.map_append]
    congr 1
    show [PV.int .u8 _]=[PV.int .u8 _]
    rw[UInt8.toNat_ofNat_of_lt' (by have:=x.isLt;have:=y.isLt;show _<256;omega)]
  ·simp only[Int.toNat_natCast,Bool.or_false,cond_false]
   cases unhV (s.drop (2 * (i+1))) with
   |none=>rfl
   |some l=>simp only[Option.map_some,unhE,List.append_assoc];rfl
def unhD (s:List UInt8):Option (List UInt8×Bool):=bif decide (s.length≤100000) then some (match unhV s with|none=>([],false)|some l=>(l,true)) else none
theorem ok_ixb':FOK NGs Ws 288 (tBx ixbD):=fok_wk ok_ixb (tBx_nat _) rfl fun xs r h=>by
 simp only[tBx] at h
 split at h
 ·exact h
 ·cases h
theorem ok_unhex:FOK NGs Ws 271 (tSB unhD):=fok_tSB woks (allOK_cons ok_ixb' allOK_nil) allH_nil (h:=hUh) Tryz.func271 rfl (by decide) fun s r h=>by
 unfold unhD at h
 obtain⟨hs,h⟩:=bif_inv h
 injection h with h
 subst h
 have hs:=of_decide_eq_true hs
 refine⟨s.length+1,(uh_raw ixbD _ s).trans ?_⟩
 have e:(s.length:Int).tmod 2=((s.length%2:Nat):Int):=by rw[Int.tmod_eq_emod_of_nonneg (by omega)];omega
 rw[e]
 by_cases h2:s.length%2=0
 ·rw[h2,cond_f (by rfl)]
  have:=uh_loop (s.length+1) s hs h2 (s.length/2) 0 (s.length+1) [] (by omega) (by omega) rfl
  refine this.trans ?_
  rw[Nat.mul_zero,List.drop_zero]
  cases unhV s<;>rfl
 ·have h3:s.length%2=1:=by omega
  rw[h3,cond_t (by rfl),unh_odd _ s (Nat.le_refl _) h3]
  rfl
def repD (s a b:List UInt8):Option (List UInt8):=bif decide (s.length≤100000)&&(decide (1≤a.length)&&decide (b.length≤100)) then some (Lib.replaceAll s a b) else none
theorem ok_repD:FOK NGs Ws 215 (tS3 repD):=fok_wk ok_rep (tS3_nat _) rfl fun xs r h=>by
 simp only[tS3] at h
 split at h
 ·obtain⟨q,hq,h⟩:=Option.bind_eq_some_iff.1 h
  unfold repD at hq
  obtain⟨hb,hq⟩:=bif_inv hq
  injection hq with hq
  subst hq
  simp only[p_rep,hb,cond_true]
  exact h
 ·cases h
def cntD (s t:List UInt8):Option Int:=match t with
 |[c]=>some (Lib.countByte s c)
 |_=>none
theorem ok_cntD:FOK NGs Ws 263 (tSSn cntD):=fok_wk ok_cnt (tSSn_nat _) rfl fun xs r h=>by
 simp only[tSSn] at h
 split at h
 ·rename_i s t
  obtain⟨q,hq,h⟩:=Option.bind_eq_some_iff.1 h
  unfold cntD at hq
  split at hq
  ·exact h
  ·exact absurd hq (by simp)
 ·cases h
def cutXD (s t:List UInt8):Option (List UInt8×Bool):=bif t==[88] then some (noX s,hasX s) else none
theorem ok_cutXD:FOK NGs Ws 164 (tSSB cutXD):=fok_wk ok_CutX (tSSB_nat _) rfl fun xs r h=>by
 simp only[tSSB] at h
 split at h
 ·obtain⟨q,hq,h⟩:=Option.bind_eq_some_iff.1 h
  unfold cutXD at hq
  obtain⟨hb,hq⟩:=bif_inv hq
  injection hq with hq
  subst hq
  rw[eq_of_beq hb]
  exact h
 ·cases h
def cutDD (s t:List UInt8):Option (List UInt8×Bool):=bif t==[46] then (bif decide (s.length≤100000) then some (noDot s,hasDot s) else none) else none
theorem ok_cutDD:FOK NGs Ws 272 (tSSB cutDD):=fok_wk ok_CutD (tSSB_nat _) rfl fun xs r h=>by
 simp only[tSSB] at h
 split at h
 ·obtain⟨q,hq,h⟩:=Option.bind_eq_some_iff.1 h
  unfold cutDD at hq
  obtain⟨hb,hq⟩:=bif_inv hq
  obtain⟨hb2,hq⟩:=bif_inv hq
  injection hq with hq
  subst hq
  rw[eq_of_beq hb]
  simp only[p_CutD,hb2,cond_true]
  exact h
 ·cases h
def parD (s:List UInt8):Option (Int×Int×Bool):=bif decide (s.length≤4000) then some ((parseP s).elim 0 (fun p=>p.1),(parseP s).elim 0 (fun p=>(p.2:Int)),(parseP s).isSome) else none
theorem ok_parD:FOK NGs Ws 220 (tD3 parD):=fok_wk (fok_s (fok_e ok_Parse)) (tD3_nat _) rfl fun xs r h=>by
 simp only[tD3] at h
 split at h
 ·obtain⟨q,hq,h⟩:=Option.bind_eq_some_iff.1 h
  unfold parD at hq
  obtain⟨hb,hq⟩:=bif_inv hq
  injection hq with hq
  subst hq
  simp only[p_Parse,hb,cond_true]
  exact h
 ·cases h
theorem ok_rparD:FOK NGs Ws 57 (tD3 parD):=fok_wk (fok_s (fok_d ok_RParse)) (tD3_nat _) rfl fun xs r h=>by
 simp only[tD3] at h
 split at h
 ·obtain⟨q,hq,h⟩:=Option.bind_eq_some_iff.1 h
  unfold parD at hq
  obtain⟨hb,hq⟩:=bif_inv hq
  injection hq with hq
  subst hq
  simp only[p_RParse,hb,cond_true]
  exact h
 ·cases h
def prD (n m:Int):Option (List UInt8):=bif inI n then some (prV n m) else none
theorem ok_prD:FOK NGs Ws 83 (tDp prD):=fok_wk (fok_s (fok_d ok_Print)) (tDp_nat _) rfl fun xs r h=>by
 simp only[tDp] at h
 split at h
 ·obtain⟨q,hq,h⟩:=Option.bind_eq_some_iff.1 h
  unfold prD at hq
  obtain⟨hb,hq⟩:=bif_inv hq
  injection hq with hq
  subst hq
  simp only[p_Print,hb,cond_true]
  exact h
 ·cases h
def rtD (a n c:Int)(s:List UInt8):Option Bool:=bif decide (s.length≤1000000) then some (rightB a n c s) else none
theorem ok_rtD:FOK NGs Ws 231 (tvB rtD):=fok_wk (fok_s (fok_k ok_rightV)) (tvB_nat _) rfl fun xs r h=>by
 simp only[tvB] at h
 split at h
 ·obtain⟨q,hq,h⟩:=Option.bind_eq_some_iff.1 h
  unfold rtD at hq
  obtain⟨hb,hq⟩:=bif_inv hq
  injection hq with hq
  subst hq
  simp only[p_rightV,hb,cond_true]
  exact h
 ·cases h
theorem ok_rrtD:FOK NGs Ws 47 (tvB rtD):=fok_wk (fok_s (fok_k ok_rightR)) (tvB_nat _) rfl fun xs r h=>by
 simp only[tvB] at h
 split at h
 ·obtain⟨q,hq,h⟩:=Option.bind_eq_some_iff.1 h
  unfold rtD at hq
  obtain⟨hb,hq⟩:=bif_inv hq
  injection hq with hq
  subst hq
  simp only[p_rightV,hb,cond_true]
  exact h
 ·cases h
theorem quotO_bind {α β:Type}{fr:List UInt8→List UInt8→List UInt8→Option (List UInt8)}{fn:List UInt8→List UInt8→Option Int}{s:List UInt8}{k:List UInt8→Bool→Option α}{g:α→Option β}:(quotO fr fn s k).bind g=quotO fr fn s fun a b=>(k a b).bind g:=by
 simp only[quotO,cond_bindo,ixB_bind,Option.bind_assoc,none_bindo]
def quotD (s:List UInt8):Option (List UInt8×Bool):=quotO repD cntD s fun a b=>some (a,b)
theorem ok_quotD:FOK NGs Ws 270 (tSB quotD):=fok_tSB woks (allOK_cons ok_repD (allOK_cons ok_cntD allOK_nil)) allH_nil (h:=hh0) Tryz.func270 rfl (by decide) fun s r h=>by
 refine⟨0,(vquoted_raw repD cntD 0 s).trans ?_⟩
 have:=congrArg (fun o=>o.bind fun r:List UInt8×Bool=>some (PV.tuple [.str r.1,.bool r.2])) h
 simp only[quotD,quotO_bind,Option.bind_some] at this
 exact this
theorem candO_bind {α β:Type}{fx:List UInt8→List UInt8→Option (List UInt8×Bool)}{fq fh:List UInt8→Option (List UInt8×Bool)}{fd:List UInt8→List UInt8→Option (List UInt8×Bool)}{fp:List UInt8→Option (Int×Int×Bool)}{s:List UInt8}{k:Val→Option α}{g:α→Option β}:(candO fx fq fh fd fp s k).bind g=candO fx fq fh fd fp s fun r=>(k r).bind g:=by
 simp only[candO,cond_bindo,Option.bind_assoc]
def candD (s:List UInt8):Option Val:=candO cutXD quotD unhD cutDD parD s some
theorem ok_candD:FOK NGs Ws 247 (tSv candD):=fok_tSv woks (allOK_cons ok_cutXD (allOK_cons ok_quotD (allOK_cons ok_unhex (allOK_cons ok_cutDD (allOK_cons ok_parD allOK_nil))))) allH_nil (h:=hh0) Tryz.func247 rfl (by decide) fun s r h=>by
 refine⟨0,(cand_raw cutXD quotD unhD cutDD parD 0 s).trans ?_⟩
 have:=congrArg (fun o=>o.bind fun r:Val=>some (valE r)) h
 simp only[candD,candO_bind,Option.bind_some] at this
 exact this
theorem rightO_bind {α β:Type}{fr:Int→Int→Int→List UInt8→Option Bool}{a n c:Int}{s:List UInt8}{k:Val→Option α}{g:α→Option β}:(rightO fr a n c s k).bind g=rightO fr a n c s fun r=>(k r).bind g:=by
 simp only[rightO,cond_bindo,Option.bind_assoc]
def vrtD (a n c:Int)(s:List UInt8):Option Val:=rightO rtD a n c s some
theorem ok_vrtD:FOK NGs Ws 214 (tvv vrtD):=fok_tvv woks (allOK_cons ok_rtD allOK_nil) allH_nil (h:=hh0) Tryz.func214 rfl (by decide) fun a n c s r h=>by
 refine⟨0,(vrt_raw rtD 0 a n c s).trans ?_⟩
 have:=congrArg (fun o=>o.bind fun r:Val=>some (valE r)) h
 simp only[vrtD,rightO_bind,Option.bind_some] at this
 exact this
theorem prinO_bind {α β:Type}{fv:Int→Int→Int→List UInt8→Option Val}{fr:List UInt8→List UInt8→List UInt8→Option (List UInt8)}{fh:List UInt8→Option (List UInt8)}{fd:Int→Int→Option (List UInt8)}{a n c:Int}{s:List UInt8}{k:List UInt8→Option α}{g:α→Option β}:(prinO fv fr fh fd a n c s k).bind g=prinO fv fr fh fd a n c s fun r=>(k r).bind g:=by
 simp only[prinO,cond_bindo,catS_bind,Option.bind_assoc]
def prinD (a n c:Int)(s:List UInt8):Option (List UInt8):=prinO vrtD repD hexD prD a n c s some
theorem ok_prinD:FOK NGs Ws 160 (tvS prinD):=fok_tvS woks (allOK_cons ok_vrtD (allOK_cons ok_repD (allOK_cons ok_hex (allOK_cons ok_prD allOK_nil)))) allH_nil (h:=hh0) Tryz.func160 rfl (by decide) fun a n c s r h=>by
 refine⟨0,(vprint_raw vrtD repD hexD prD 0 a n c s).trans ?_⟩
 have:=congrArg (fun o=>o.bind fun r:List UInt8=>some (PV.str r)) h
 simp only[prinD,prinO_bind,Option.bind_some] at this
 exact this
theorem vparO_bind {α β:Type}{fc:List UInt8→Option Val}{fr:Int→Int→Int→List UInt8→Option Bool}{fp:Int→Int→Int→List UInt8→Option (List UInt8)}{s:List UInt8}{k:Val→Bool→Option α}{g:α→Option β}:(vparO fc fr fp s k).bind g=vparO fc fr fp s fun r b=>(k r b).bind g:=by
 simp only[vparO,cond_bindo,Option.bind_assoc]
def vparD (s:List UInt8):Option (Val×Bool):=vparO candD rtD prinD s fun v b=>some (v,b)
theorem ok_vparD:FOK NGs Ws 219 (tSvb vparD):=fok_tSvb woks (allOK_cons ok_candD (allOK_cons ok_rtD (allOK_cons ok_prinD allOK_nil))) allH_nil (h:=hh0) Tryz.func219 rfl (by decide) fun s r h=>by
 refine⟨0,(vparse_raw candD rtD prinD 0 s).trans ?_⟩
 have:=congrArg (fun o=>o.bind fun r:Val×Bool=>some (PV.tuple [valE r.1,.bool r.2])) h
 simp only[vparD,vparO_bind,Option.bind_some] at this
 exact this
def litD (s:List UInt8):Option (TR×Int×Bool):=litO vparD s fun t n b=>some (t,n,b)
theorem ok_litD:FOK NGs Ws 169 (tTk litD):=fok_tTk woks (allOK_cons ok_vparD allOK_nil) allH_nil (h:=hh0) Tryz.func169 rfl (by decide) fun s r h=>by
 refine⟨0,(llit_raw vparD 0 s).trans ?_⟩
 have:=congrArg (fun o=>o.bind fun r:TR×Int×Bool=>some (PV.tuple [.agg r.1.cells,.int .i64 r.2.1,.bool r.2.2])) h
 simp only[litD,litO,Option.bind_assoc,Option.bind_some] at this
 exact this
section
variable {old new:List UInt8} (ho:old≠[]) (hn:old≠new)
include ho hn
omit ho in
theorem ra_eq (s:List UInt8):Lib.replaceAll s old new=Lib.replaceK old new (Lib.count s old) s:=by
 unfold Lib.replaceAll Lib.replace Lib.replaceNum
 rw[if_neg (by simpa using hn),if_pos (Or.inl (by omega))]
theorem ra_nil:Lib.replaceAll [] old new=[]:=by
 rw[ra_eq hn,Lib.count_miss (by unfold Lib.index;rw[if_neg (by simpa using ho)])]
 rfl
theorem ra_hit {s:List UInt8}(h:old.isPrefixOf s=true)(hs:s≠[]):Lib.replaceAll s old new=new++Lib.replaceAll (s.drop old.length) old new:=by
 have hi:Lib.index s old=((0:Nat):Int):=by
  cases s with
  |nil=>exact absurd rfl hs
  |cons b l=>unfold Lib.index;rw[if_pos h];rfl
 rw[ra_eq hn,ra_eq hn,Lib.count_hit ho hi,Nat.add_comm,Lib.replaceK_hit _ _ _ _ 0 hi,Nat.zero_add,List.take_zero,List.nil_append]
theorem ra_miss {b:UInt8}{l:List UInt8}(h:old.isPrefixOf (b::l)=false):Lib.replaceAll (b::l) old new=b::Lib.replaceAll l old new:=by
 have hi:Lib.index (b::l) old=if Lib.index l old == -1 then -1 else Lib.index l old+1:=by
  rw[Lib.index,if_neg (by rw[h];decide)]
 rw[ra_eq hn,ra_eq hn]
 by_cases hm:Lib.index l old=-1
 ·rw[Lib.count_miss hm,Lib.count_miss (by rw[hi,hm];rfl)]
  rfl
 ·have hge:=Lib.index_ge l old
  obtain⟨i,hx⟩:∃ i:Nat,Lib.index l old=(i:Int):=⟨(Lib.index l old).toNat,by omega⟩
  have hy:Lib.index (b::l) old=((i+1:Nat):Int):=by
   rw[hi,if_neg (by simpa using hm),hx]
   omega
  rw[Lib.count_hit ho hx,Lib.count_hit ho hy,show i+1+old.length=(i+old.length)+1 by omega,List.drop_succ_cons,Nat.add_comm 1,Lib.replaceK_hit _ _ _ _ i hx,Lib.replaceK_hit _ _ _ _ (i+1) hy,List.take_succ_cons,show i+1+old.length=(i+old.length)+1 by omega,List.drop_succ_cons]
  rfl
end
inductive Dbl:List UInt8→List UInt8→Prop
 |nil:Dbl [] []
 |q {r u:List UInt8}:Dbl r u→Dbl (39::39::r) (39::u)
 |c {c:UInt8} {r u:List UInt8}:c≠39→Dbl r u→Dbl (c::r) (c::u)
theorem dbl_un {r u:List UInt8}(h:Dbl r u):Lib.replaceAll r [39,39] [39]=u:=by
 induction h with
 |nil=>exact ra_nil (by decide) (by decide)
 |q _ ih=>rw[ra_hit (by decide) (by decide) (by rfl) (by simp)];simp only[List.length_cons,List.length_nil,List.drop_succ_cons,List.drop_zero,ih];rfl
 |c hc _ ih=>rw[ra_miss (by decide) (by decide) (by simp[List.isPrefixOf,Ne.symm hc]),ih]
theorem dbl_do {r u:List UInt8}(h:Dbl r u):Lib.replaceAll u [39] [39,39]=r:=by
 induction h with
 |nil=>exact ra_nil (by decide) (by decide)
 |q _ ih=>rw[ra_hit (by decide) (by decide) (by rfl) (by simp)];simp only[List.length_cons,List.length_nil,List.drop_succ_cons,List.drop_zero,ih];rfl
 |c hc _ ih=>rw[ra_miss (by decide) (by decide) (by simp[List.isPrefixOf,Ne.symm hc]),ih]
theorem dbl_cnt {r u:List UInt8}(h:Dbl r u):Lib.countByte r 39=2 * Lib.countByte u 39:=by
 unfold Lib.countByte
 induction h with
 |nil=>rfl
 |q _ ih=>simp only[List.count_cons_self,ih];omega
 |c hc _ ih=>rw[List.count_cons_of_ne hc,List.count_cons_of_ne hc,ih]
theorem dbl_len {r u:List UInt8}(h:Dbl r u):u.length≤r.length:=by
 induction h with
 |nil=>exact Nat.le_refl _
 |q _ ih=>simp only[List.length_cons];omega
 |c hc _ ih=>simp only[List.length_cons];omega
theorem dbl_no {r u:List UInt8}(h:Dbl r u)(hn:∀ c∈u,c≠39):r=u:=by
 induction h with
 |nil=>rfl
 |q _ ih=>exact absurd rfl (hn 39 (List.mem_cons_self ..))
 |c hc _ ih=>rw[ih fun c h=>hn c (List.mem_cons_of_mem _ h)]
def qt (r:List UInt8):List UInt8:=39::(r++[39])
theorem qt_len (r:List UInt8):(qt r).length=r.length+2:=by simp[qt]
theorem quot_eq {r u:List UInt8}(h:Dbl r u)(hl:r.length≤10000):quotD (qt r)=some (u,true):=by
 have hu:=dbl_len h
 unfold quotD quotO
 rw[qt_len,cond_t (by rw[decide_eq_false (by omega)];rfl),show ((0:Int))=((0:Nat):Int) from rfl,ixB_eq (c:=39) (by rfl),cond_t (by rfl),wrapI_of (by omega) (by omega),show (((r.length+2:Nat):Int)-1)=((r.length+1:Nat):Int) by omega,
  ixB_eq (c:=39) (by unfold qt;rw[List.getElem?_cons_succ,List.getElem?_append_right (Nat.le_refl _),Nat.sub_self];rfl),cond_f (by rfl),cond_t (by simp only[Bool.and_eq_true,decide_eq_true_eq];omega),Int.toNat_natCast,cond_t (decide_eq_true (by omega))]
 have e:((qt r).take (r.length+1)).drop 1=r:=by
  unfold qt
  rw[List.take_succ_cons,List.drop_succ_cons,List.drop_zero,List.take_left]
 rw[e]
 unfold repD
 rw[cond_t (by simp only[Bool.and_eq_true,decide_eq_true_eq,List.length_cons,List.length_nil];omega),Option.bind_some,dbl_un h]
 show some (u,(Lib.countByte r 39:Int)==IntKind.i64.wrap (2 * (Lib.countByte u 39:Int)))=_
 have hc:Lib.countByte u 39≤u.length:=List.count_le_length
 rw[dbl_cnt h,wrapI_of (by omega) (by omega)]
 simp
def txtV (u:List UInt8):Val×Bool:=bif rightB 4 0 0 u then (⟨4,0,0,u⟩,true) else (⟨0,0,0,[]⟩,false)
theorem vpar_text {r u:List UInt8}(h:Dbl r u)(hl:r.length≤10000):vparD (qt r)=some (txtV u):=by
 have hu:=dbl_len h
 unfold vparD vparO
 have hc:candD (qt r)=some ⟨4,0,0,u⟩:=by
  unfold candD candO
  rw[cond_f (beq_eq_false_iff_ne.2 (by unfold qt;intro e;cases e)),cond_f (beq_eq_false_iff_ne.2 (by unfold qt;intro e;cases e))]
  have hx:cutXD (qt r) [88]=some (qt r,false):=rfl
  rw[hx,Option.bind_some,cond_false,quot_eq h hl,Option.bind_some,cond_true]
 rw[hc,Option.bind_some]
 unfold txtV
 have hr:rtD 4 0 0 u=some (rightB 4 0 0 u):=by unfold rtD;rw[cond_t (decide_eq_true (by omega))]
 rw[show rtD (⟨4,0,0,u⟩:Val).kind (⟨4,0,0,u⟩:Val).n (⟨4,0,0,u⟩:Val).scale (⟨4,0,0,u⟩:Val).s=_ from hr,Option.bind_some]
 cases hb:rightB 4 0 0 u with
 |false=>rfl
 |true =>
  rw[hb] at hr
  have hp:prinD 4 0 0 u=some (qt r):=by
   unfold prinD prinO vrtD rightO
   rw[hr,Option.bind_some]
   show (repD u [39] [39,39]).bind _=_
   unfold repD
   rw[cond_t (by simp only[Bool.and_eq_true,decide_eq_true_eq,List.length_cons,List.length_nil];omega),Option.bind_some,dbl_do h,catS_eq (by simp;omega),catS_eq (by simp;omega)]
   rfl
  show (prinD 4 0 0 u).bind _=_
  rw[hp,Option.bind_some,beq_self_eq_true]
  rfl
theorem hx_back_all:∀ n:Fin 256,0≤hxI (UInt8.ofNat n.val)→hxN (hxI (UInt8.ofNat n.val)).toNat=UInt8.ofNat n.val:=by decide
theorem hx_back {c:UInt8}(h:0≤hxI c):hxN (hxI c).toNat=c:=by
 have:=hx_back_all ⟨c.toNat,c.toNat_lt⟩
 rw[UInt8.ofNat_toNat] at this
 exact this h
theorem unh_hex:∀ (k:Nat) (u b:List UInt8),u.length≤k→unhV u=some b→hexV b=u∧(∀ c∈u,c≠39)∧b.length≤u.length
 |_,[],b,_,h=>by injection h with h;subst h;exact⟨rfl,(fun c h=>by cases h),Nat.le_refl _⟩
 |_,[_],b,_,h=>by cases h
 |0,a::c::t,b,hk,h=>by simp at hk
 |k+1,a::c::t,b,hk,h=>by
  rw[unhV] at h
  have ga:=hxI_ge a
  have gc:=hxI_ge c
  by_cases ha:hxI a<0
  ·rw[decide_eq_true ha] at h;cases h
  by_cases hc:hxI c<0
  ·rw[decide_eq_true hc,Bool.or_true] at h;cases h
  rw[decide_eq_false ha,decide_eq_false hc] at h
  obtain⟨l,hl,h⟩:=Option.map_eq_some_iff.1 h
  subst h
  obtain⟨h1,h2,h3⟩:=unh_hex k t l (by simp at hk;omega) hl
  have hlt:16 * (hxI a).toNat+(hxI c).toNat<256:=by omega
  refine⟨?_,?_,?_⟩
  ·unfold hexV at h1 ⊢
   rw[List.flatMap_cons,h1,UInt8.toNat_ofNat_of_lt' hlt,show (16 * (hxI a).toNat+(hxI c).toNat)/16=(hxI a).toNat by omega,show (16 * (hxI a).toNat+(hxI c).toNat)%16=(hxI c).toNat by omega,hx_back (by omega),hx_back (by omega)]
   rfl
  ·intro x hx
   rcases List.mem_cons.1 hx with rfl|hx
   ·rintro rfl;exact ha (by decide)
   ·rcases List.mem_cons.1 hx with rfl|hx
    ·rintro rfl;exact hc (by decide)
    ·exact h2 x hx
  ·simp only[List.length_cons];omega
def bytV (u:List UInt8):Val×Bool:=match unhV u with
 |none=>(⟨0,0,0,[]⟩,false)
 |some b=>bif rightB 5 0 0 b then (⟨5,0,0,b⟩,true) else (⟨0,0,0,[]⟩,false)
theorem vpar_bytes {r u:List UInt8}(h:Dbl r u)(hl:r.length≤10000):vparD (88::qt r)=some (bytV u):=by
 have hu:=dbl_len h
 unfold vparD vparO
 have hc:candD (88::qt r)=some ⟨5,0,0,(unhV u).getD []⟩:=by
  unfold candD candO
  rw[cond_f (beq_eq_false_iff_ne.2 (by intro e;cases e)),cond_f (beq_eq_false_iff_ne.2 (by intro e;cases e))]
  have hx:cutXD (88::qt r) [88]=some (qt r,true):=rfl
  rw[hx,Option.bind_some,cond_true,quot_eq h hl,Option.bind_some,cond_true]
  unfold unhD
  rw[cond_t (decide_eq_true (show u.length≤100000 by omega))]
  cases unhV u<;>rfl
 rw[hc,Option.bind_some]
 generalize hb:(unhV u).getD []=b
 have hbl:b.length≤u.length:=by
  cases hv:unhV u with
  |none=>rw[hv] at hb;subst hb;exact Nat.zero_le _
  |some x=>rw[hv] at hb;subst hb;exact (unh_hex _ u x (Nat.le_refl _) hv).2.2
 have hr:rtD 5 0 0 b=some (rightB 5 0 0 b):=by unfold rtD;rw[cond_t (decide_eq_true (by omega))]
 rw[show rtD (⟨5,0,0,b⟩:Val).kind (⟨5,0,0,b⟩:Val).n (⟨5,0,0,b⟩:Val).scale (⟨5,0,0,b⟩:Val).s=_ from hr,Option.bind_some]
 unfold bytV
 cases hq:rightB 5 0 0 b with
 |false =>
  cases hv:unhV u with
  |none=>rfl
  |some x =>
   rw[hv] at hb
   simp only[Option.getD_some] at hb
   subst hb
   simp only[hq]
   rfl
 |true =>
  rw[hq] at hr
  have hp:prinD 5 0 0 b=some (88::qt (hexV b)):=by
   unfold prinD prinO vrtD rightO
   rw[hr,Option.bind_some]
   show (hexD b).bind _=_
   have hh:(hexV b).length=2 * b.length:=by
    unfold hexV
    clear hr hq hbl hb
    induction b with
    |nil=>rfl
    |cons a b ih=>rw[List.flatMap_cons,List.length_append,ih];simp only[List.length_cons,List.length_nil];omega
   unfold hexD
   rw[cond_t (decide_eq_true (by omega)),Option.bind_some,catS_eq (by simp;omega),catS_eq (by simp;omega)]
   rfl
  show (prinD 5 0 0 b).bind _=_
  rw[hp,Option.bind_some]
  cases hv:unhV u with
  |none =>
   rw[hv] at hb
   simp only[Option.getD_none] at hb
   subst hb
   have:r≠[]:=by
    rintro rfl
    cases h
    cases hv
   have hne:((88::qt (hexV []))==(88::qt r))=false:=by
    rw[beq_eq_false_iff_ne]
    intro e
    have:=congrArg List.length e
    simp only[List.length_cons,qt_len] at this
    have h0:(hexV []).length=0:=rfl
    have:=List.length_pos_iff.2 ‹r≠[]›
    omega
   rw[hne]
   rfl
  |some x =>
   rw[hv] at hb
   simp only[Option.getD_some] at hb
   subst hb
   obtain⟨h1,h2,-⟩:=unh_hex _ u x (Nat.le_refl _) hv
   rw[h1,dbl_no h h2,beq_self_eq_true]
   simp only[hq]
   rfl
def tRow (f:FuncId→List UInt8→Option (List UInt8)):PFn:=⟨fun xs k=>match xs with|[.str s,.clo n []]=>(f n s).bind fun r=>k (.str r)|_=>none,false⟩
theorem tRow_nat (f:FuncId→List UInt8→Option (List UInt8)):(tRow f).nat:=by
 intro R xs k
 simp only[tRow]
 split
 ·rw[Option.bind_assoc];rfl
 ·rfl
def sl0 {R:Type}(s:List UInt8)(i:Int)(k:List UInt8→Option R):Option R:=bif decide (0≤i)&&decide (i≤(s.length:Int)) then k ((s.take i.toNat).drop 0) else none
def hRw:Hints:=⟨[],[(0,⟨[(0,false),(1,false),(7,false),(8,false)],[]⟩)]⟩
def frRw (s:List UInt8)(n:FuncId)(L i:Int):St:=frame 22 [(0,(.str s,0)),(1,(.clo n [],0)),(7,(.int .i64 L,0)),(8,(.int .i64 i,0))] []
noncomputable def fRw:Func:=Tryz.f174
noncomputable def rwDL (f:Int→Option Bool)(fu n:Nat)(st:St):Option PV:=loopF (enH [(171,tcB f)] [] []) hRw fu false fRw [1,0,1,0] 0 n st
theorem rwD_raw (f:Int→Option Bool)(fu:Nat)(s:List UInt8):prun (enH [(171,tcB f)] [] []) hRw fu false fRw [.str s,.clo 171 []]=rwDL f fu fu (frRw s 171 (s.length:Int) 0):=prunN_eq.trans (by kernel_rfl)
theorem rwD_step (f:Int→Option Bool)(fu:Nat)(s:List UInt8)(L i:Int)(K:St→Option PV) :
  stepF (enH [(171,tcB f)] [] []) hRw fu false fRw [1,0,1,0] (frRw s 171 L i) (fun st=>pnorm (hRw.loop.lookup 0) st K) =
  bif decide (i<L) then ixB s i fun v=>(f (v.toNat:Int)).bind fun b=>bif !b then sl0 s i fun r=>some (.str r) else K (frRw s 171 L (IntKind.i64.wrap (i+1))) else some (.str s):=by kernel_rfl
noncomputable def rwGL (f:Int→Option Bool)(fu n:Nat)(st:St):Option PV:=loopF (enH [(173,tcB f)] [] []) hRw fu false fRw [1,0,1,0] 0 n st
theorem rwG_raw (f:Int→Option Bool)(fu:Nat)(s:List UInt8):prun (enH [(173,tcB f)] [] []) hRw fu false fRw [.str s,.clo 173 []]=rwGL f fu fu (frRw s 173 (s.length:Int) 0):=prunN_eq.trans (by kernel_rfl)
theorem rwG_step (f:Int→Option Bool)(fu:Nat)(s:List UInt8)(L i:Int)(K:St→Option PV) :
  stepF (enH [(173,tcB f)] [] []) hRw fu false fRw [1,0,1,0] (frRw s 173 L i) (fun st=>pnorm (hRw.loop.lookup 0) st K) =
  bif decide (i<L) then ixB s i fun v=>(f (v.toNat:Int)).bind fun b=>bif !b then sl0 s i fun r=>some (.str r) else K (frRw s 173 L (IntKind.i64.wrap (i+1))) else some (.str s):=by kernel_rfl
noncomputable def rwSL (f:Int→Option Bool)(fu n:Nat)(st:St):Option PV:=loopF (enH [(177,tcB f)] [] []) hRw fu false fRw [1,0,1,0] 0 n st
theorem rwS_raw (f:Int→Option Bool)(fu:Nat)(s:List UInt8):prun (enH [(177,tcB f)] [] []) hRw fu false fRw [.str s,.clo 177 []]=rwSL f fu fu (frRw s 177 (s.length:Int) 0):=prunN_eq.trans (by kernel_rfl)
theorem rwS_step (f:Int→Option Bool)(fu:Nat)(s:List UInt8)(L i:Int)(K:St→Option PV) :
  stepF (enH [(177,tcB f)] [] []) hRw fu false fRw [1,0,1,0] (frRw s 177 L i) (fun st=>pnorm (hRw.loop.lookup 0) st K) =
  bif decide (i<L) then ixB s i fun v=>(f (v.toNat:Int)).bind fun b=>bif !b then sl0 s i fun r=>some (.str r) else K (frRw s 177 L (IntKind.i64.wrap (i+1))) else some (.str s):=by kernel_rfl
def hQu:Hints:=⟨[],[(0,⟨[(0,false),(3,false)],[]⟩)]⟩
def frQu (s:List UInt8)(i:Int):St:=frame 34 [(0,(.str s,0)),(3,(.int .i64 i,0))] []
noncomputable def fQu:Func:=Tryz.f170
noncomputable def quL (fu n:Nat)(st:St):Option PV:=loopF (enH [] [] []) hQu fu false fQu [1,0,1,0] 0 n st
theorem qu_raw (fu:Nat)(s:List UInt8):prun (enH [] [] []) hQu fu false fQu [.str s]=quL fu fu (frQu s 1):=prunN_eq.trans (by kernel_rfl)
theorem qu_step (fu:Nat)(s:List UInt8)(i:Int)(K:St→Option PV) :
  stepF (enH [] [] []) hQu fu false fQu [1,0,1,0] (frQu s i) (fun st=>pnorm (hQu.loop.lookup 0) st K) =
  bif decide (i<(s.length:Int)) then ixB s i fun v=>bif !((v.toNat:Int)==39) then K (frQu s (IntKind.i64.wrap (i+1))) else
   bif decide (IntKind.i64.wrap (i+1)<(s.length:Int)) then ixB s (IntKind.i64.wrap (i+1)) fun w=>bif (w.toNat:Int)==39 then K (frQu s (IntKind.i64.wrap (IntKind.i64.wrap (i+1)+1))) else sl0 s (IntKind.i64.wrap (i+1)) fun r=>some (.str r)
   else sl0 s (IntKind.i64.wrap (i+1)) fun r=>some (.str r)
  else some (.str []):=by kernel_rfl
theorem dig_raw' (fu:Nat)(c:Int):prun (enH [] [] []) hh0 fu false Tryz.f171 [.int .u8 c]=some (.bool (decide (48≤c)&&decide (c≤57))):=by kernel_rfl
theorem gre_raw' (fu:Nat)(c:Int):prun (enH [] [] []) hh0 fu false Tryz.f173 [.int .u8 c]=some (.bool (decide (65≤c)&&decide (c≤90))):=by kernel_rfl
theorem sma_raw' (f:Int→Option Bool)(fu:Nat)(c:Int):prun (enH [(171,tcB f)] [] []) hh0 fu false Tryz.f177 [.int .u8 c] =
  bif !(decide (97≤c)&&decide (c≤122)) then (f c).bind fun b=>some (.bool (b||c==95)) else some (.bool true):=by kernel_rfl
def numF {R:Type}(fp:List UInt8→Option (Int×Int×Bool))(x:List UInt8)(k:TR→Int→Bool→Option R):Option R:=(fp x).bind fun p=>bif decide (0<p.2.1) then k ⟨2,0,[],3,p.1,p.2.1,[]⟩ (x.length:Int) p.2.2 else k ⟨2,0,[],2,p.1,0,[]⟩ (x.length:Int) p.2.2
def numO {R:Type}(fr:FuncId→List UInt8→Option (List UInt8))(fd:Int→Option Bool)(fp:List UInt8→Option (Int×Int×Bool))(s:List UInt8)(k:TR→Int→Bool→Option R):Option R :=
 (fr 171 s).bind fun x=>bif decide (0≤(x.length:Int))&&decide ((x.length:Int)≤(s.length:Int)) then
  bif decide ((1:Int)<(((s.take s.length).drop (x.length:Int).toNat).length:Int)) then ixB ((s.take s.length).drop (x.length:Int).toNat) 0 fun v=>bif (v.toNat:Int)==46 then ixB ((s.take s.length).drop (x.length:Int).toNat) 1 fun w=>(fd (w.toNat:Int)).bind fun b=>bif b then
   bif decide ((1:Int)≤(((s.take s.length).drop (x.length:Int).toNat).length:Int)) then (fr 171 ((((s.take s.length).drop (x.length:Int).toNat).take ((s.take s.length).drop (x.length:Int).toNat).length).drop 1)).bind fun y=>catS [46] y fun z=>catS x z fun t=>numF fp t k else none
   else numF fp x k else numF fp x k else numF fp x k else none
theorem num_raw' (fr:FuncId→List UInt8→Option (List UInt8))(fd:Int→Option Bool)(fp:List UInt8→Option (Int×Int×Bool))(fu:Nat)(s:List UInt8) :
  prun (enH [(174,tRow fr),(171,tcB fd),(220,tD3 fp)] [] []) hh0 fu false Tryz.f172 [.str s]=numO fr fd fp s fun t n b=>some (.tuple [.agg t.cells,.int .i64 n,.bool b]):=by kernel_rfl
abbrev sgW:List UInt8:=[40,41,44,46,43,45,42,47,37,61,60,62]
def sgn1 {R:Type}(ft:List UInt8→List UInt8→Option Bool)(s:List UInt8)(k:TR→Int→Bool→Option R):Option R :=
 bif decide ((1:Int)≤(s.length:Int)) then bif decide ((1:Int)≤(s.length:Int)) then (ft sgW ((s.take 1).drop 0)).bind fun b=>k ⟨3,0,(s.take 1).drop 0,0,0,0,[]⟩ 1 b else none else none
def sgnO {R:Type}(fc:Nat→List PV→List UInt8→Option Bool)(ft:List UInt8→List UInt8→Option Bool)(s:List UInt8)(k:TR→Int→Bool→Option R):Option R :=
 bif decide ((1:Int)<(s.length:Int)) then bif decide ((2:Int)≤(s.length:Int)) then (fc 3 [.str [60,61],.str [62,61],.str [60,62]] ((s.take 2).drop 0)).bind fun b=>bif b then (bif decide ((2:Int)≤(s.length:Int)) then k ⟨3,0,(s.take 2).drop 0,0,0,0,[]⟩ 2 true else none) else sgn1 ft s k else none else sgn1 ft s k
theorem sgn_raw' (fc:Nat→List PV→List UInt8→Option Bool)(ft:List UInt8→List UInt8→Option Bool)(fu:Nat)(s:List UInt8) :
  prun (enH [(184,tCn fc),(223,tSSb ft)] [] []) hh0 fu false Tryz.f178 [.str s]=sgnO fc ft s fun t n b=>some (.tuple [.agg t.cells,.int .i64 n,.bool b]):=by kernel_rfl
structure FTk where
 fl:List UInt8→Option (TR×Int×Bool)
 fq:List UInt8→Option (List UInt8)
 fd:Int→Option Bool
 fn:List UInt8→Option (TR×Int×Bool)
 fg:Int→Option Bool
 fr:FuncId→List UInt8→Option (List UInt8)
 fk:Option (Option Bool×Nat×List PV)
 fb:Nat→List PV→List UInt8→Option (Int×Bool)
 fs:Int→Option Bool
 fx:List UInt8→Option (TR×Int×Bool)
noncomputable def enTk (F:FTk):Env:=enH [(169,tTk F.fl),(170,tS1 F.fq),(171,tcB F.fd),(172,tTk F.fn),(173,tcB F.fg),(174,tRow F.fr),(176,tWs0 F.fk),(175,tBs F.fb),(177,tcB F.fs),(178,tTk F.fx)] [] []
def tokR {R:Type}(F:FTk)(v:UInt8)(s:List UInt8)(k:TR→Int→Bool→Option R):Option R :=
 (F.fd (v.toNat:Int)).bind fun b=>bif b then (F.fn s).bind fun t=>k t.1 t.2.1 t.2.2 else (F.fg (v.toNat:Int)).bind fun b=>bif b then (F.fr 173 s).bind fun w=>F.fk.bind fun ks=>(F.fb ks.2.1 ks.2.2 w).bind fun r=>k ⟨1,0,w,0,0,0,[]⟩ (w.length:Int) r.2
 else (F.fs (v.toNat:Int)).bind fun b=>bif b&&!((v.toNat:Int)==95) then (F.fr 177 s).bind fun w=>k ⟨0,0,w,0,0,0,[]⟩ (w.length:Int) (decide ((w.length:Int)≤24)) else (F.fx s).bind fun t=>k t.1 t.2.1 t.2.2
def tokO {R:Type}(F:FTk)(s:List UInt8)(k:TR→Int→Bool→Option R):Option R :=
 ixB s 0 fun v=>bif (v.toNat:Int)==39 then (F.fq s).bind fun q=>(F.fl q).bind fun t=>k t.1 t.2.1 t.2.2 else
  bif (bif (v.toNat:Int)==88 then decide ((1:Int)<(s.length:Int)) else false) then ixB s 1 fun w=>bif (w.toNat:Int)==39 then
   (bif decide ((1:Int)≤(s.length:Int)) then (F.fq ((s.take s.length).drop 1)).bind fun q=>bif q==[] then k TR.zero 0 false else catS [88] q fun z=>(F.fl z).bind fun t=>k t.1 t.2.1 t.2.2 else none)
   else tokR F v s k else tokR F v s k
theorem tok_raw (F:FTk)(fu:Nat)(s:List UInt8):prun (enTk F) hh0 fu false Tryz.f94 [.str s]=tokO F s fun t n b=>some (.tuple [.agg t.cells,.int .i64 n,.bool b]):=by kernel_rfl
def hLx:Hints:=⟨[],[(0,⟨[(0,false),(5,true),(6,false)],[]⟩)]⟩
def frLx (s:List UInt8)(no:Option Bool)(lo:Nat)(co:List PV)(i:Int):St:=frame 50 [(0,(.str s,0)),(5,(.sl no 7 lo co,57)),(6,(.int .i64 i,0))] []
noncomputable def fLx:Func:=Tryz.f51
noncomputable def enLx (ft:List UInt8→Option (TR×Int×Bool)):Env:=enH [(94,tTk ft)] [] []
noncomputable def lxL (ft:List UInt8→Option (TR×Int×Bool))(fu n:Nat)(st:St):Option PV:=loopF (enLx ft) hLx fu false fLx [1,1,1,0,1,0] 0 n st
def roomT {R:Type}(l m:Nat)(x:Option R):Option R:=bif decide (l+m≤9223372036854775807)&&decide ((l+m) * 72≤140737488355328) then x else none
theorem lx_raw (ft:List UInt8→Option (TR×Int×Bool))(fu:Nat)(s:List UInt8):prun (enLx ft) hLx fu false fLx [.str s]=bif decide ((2000:Int)<(s.length:Int)) then some (.tuple [.sl (some true) 7 0 [],.int .i64 2000,.int .i64 170]) else lxL ft fu fu (frLx s (some true) 0 [] 0):=prunN_eq.trans (by kernel_rfl)
def lxT {R:Type}(ft:List UInt8→Option (TR×Int×Bool))(s:List UInt8)(i:Int)(lo:Nat)(bad:Option R)(K:TR→Int→Option R):Option R :=
 bif decide (0≤i)&&decide (i≤(s.length:Int)) then (ft ((s.take s.length).drop i.toNat)).bind fun t=>bif !t.2.2 then bad else roomT lo 1 (K ⟨t.1.k,i,t.1.t,t.1.vk,t.1.vn,t.1.vc,t.1.vs⟩ (IntKind.i64.wrap (i+t.2.1))) else none
theorem lx_step (ft:List UInt8→Option (TR×Int×Bool))(fu:Nat)(s:List UInt8)(no:Option Bool)(lo:Nat)(co:List PV)(i:Int)(K:St→Option PV) :
  stepF (enLx ft) hLx fu false fLx [1,1,1,0,1,0] (frLx s no lo co i) (fun st=>pnorm (hLx.loop.lookup 0) st K) =
  bif decide (i<(s.length:Int)) then ixB s i fun v=>bif !((v.toNat:Int)==32) then ixB s i fun w=>bif (w.toNat:Int)==10 then K (frLx s no lo co (IntKind.i64.wrap (i+1))) else
    lxT ft s i lo (some (.tuple [.sl (some true) 7 0 [],.int .i64 i,.int .i64 170])) fun t j=>K (frLx s (no.map (· && false)) (lo+1) (co++t.cells) j)
   else K (frLx s no lo co (IntKind.i64.wrap (i+1)))
  else some (.tuple [.sl no 7 lo co,.int .i64 0,.int .i64 0]):=by kernel_rfl
def lDig (c:UInt8):Bool:=decide (48≤(c.toNat:Int))&&decide ((c.toNat:Int)≤57)
def lGre (c:UInt8):Bool:=decide (65≤(c.toNat:Int))&&decide ((c.toNat:Int)≤90)
def lSma (c:UInt8):Bool:=bif !(decide (97≤(c.toNat:Int))&&decide ((c.toNat:Int)≤122)) then lDig c||(c.toNat:Int)==95 else true
def digD (c:Int):Option Bool:=some (decide (48≤c)&&decide (c≤57))
def greD (c:Int):Option Bool:=some (decide (65≤c)&&decide (c≤90))
def smaD (c:Int):Option Bool:=some (bif !(decide (97≤c)&&decide (c≤122)) then (decide (48≤c)&&decide (c≤57))||c==95 else true)
theorem ok_dig:FOK NGs Ws 171 (tcB digD):=fok_tcB woks allOK_nil allH_nil (h:=hh0) Tryz.func171 rfl (by decide) fun c r h=>⟨0,by rw[dig_raw' 0 c];injection h with h;rw[h]⟩
theorem ok_gre:FOK NGs Ws 173 (tcB greD):=fok_tcB woks allOK_nil allH_nil (h:=hh0) Tryz.func173 rfl (by decide) fun c r h=>⟨0,by rw[gre_raw' 0 c];injection h with h;rw[h]⟩
theorem ok_sma:FOK NGs Ws 177 (tcB smaD):=fok_tcB woks (allOK_cons ok_dig allOK_nil) allH_nil (h:=hh0) Tryz.func177 rfl (by decide) fun c r h=>⟨0,by
 rw[sma_raw' digD 0 c]
 injection h with h
 rw[← h]
 cases decide (97≤c)&&decide (c≤122)<;>rfl⟩
theorem row_gen {p:UInt8→Bool}{L:Nat→St→Option PV}{s:List UInt8}{m:FuncId}(hs:s.length≤100000)
  (hL:∀ n i,L (n+1) (frRw s m (s.length:Int) i)=bif decide (i<(s.length:Int)) then ixB s i fun v=>bif !p v then sl0 s i fun r=>some (.str r) else L n (frRw s m (s.length:Int) (IntKind.i64.wrap (i+1))) else some (.str s)) :
  ∀ (k i n:Nat),i+k=s.length→k<n→L n (frRw s m (s.length:Int) (i:Int))=some (.str (s.take i++(s.drop i).takeWhile p))
 |k,i,0,_,h=>by omega
 |0,i,n+1,hi,hn=>by
  rw[hL,cond_f (decide_eq_false (by omega)),List.take_of_length_le (by omega),List.drop_of_length_le (by omega)]
  simp
 |k+1,i,n+1,hi,hn=>by
  have hc:=List.getElem?_eq_getElem (l:=s) (i:=i) (by omega)
  have ht:s.take (i+1)=s.take i++[s[i]'(by omega)]:=List.take_succ_eq_append_getElem (by omega)
  have ih:=row_gen hs hL k (i+1) n (by omega) (by omega)
  rw[hL,cond_t (decide_eq_true (by omega)),ixB_eq hc,List.drop_eq_getElem_cons (show i<s.length by omega),List.takeWhile_cons,wrapI_of (by omega) (by omega)]
  cases hp:p (s[i]'(by omega)) with
  |false =>
   unfold sl0
   simp only[Bool.not_false,cond_true,Int.toNat_natCast,List.drop_zero]
   rw[cond_t (by simp only[Bool.and_eq_true,decide_eq_true_eq];omega)]
   simp
  |true =>
   simp only[Bool.not_true,cond_false,if_true]
   rw[ht] at ih
   refine Eq.trans ?_ (ih.trans (by rw[List.append_assoc];rfl))
   congr 1
def rowF (p:UInt8→Bool)(s:List UInt8):Option (List UInt8):=bif decide (s.length≤100000) then some (s.takeWhile p) else none
def rowD (n:FuncId)(s:List UInt8):Option (List UInt8):=if n=171 then rowF lDig s else if n=173 then rowF lGre s else if n=177 then rowF lSma s else none
theorem row_d {s:List UInt8}(hs:s.length≤100000):∃ fu,prun (enH [(171,tcB digD)] [] []) hRw fu false fRw [.str s,.clo 171 []]=some (.str (s.takeWhile lDig)) :=
 ⟨s.length+1,(rwD_raw digD _ s).trans (row_gen (p:=lDig) (L:=rwDL digD (s.length+1)) hs (fun n i=>by unfold rwDL;rw[loopF_succ,rwD_step];rfl) s.length 0 _ (by omega) (by omega))⟩
theorem row_g {s:List UInt8}(hs:s.length≤100000):∃ fu,prun (enH [(173,tcB greD)] [] []) hRw fu false fRw [.str s,.clo 173 []]=some (.str (s.takeWhile lGre)) :=
 ⟨s.length+1,(rwG_raw greD _ s).trans (row_gen (p:=lGre) (L:=rwGL greD (s.length+1)) hs (fun n i=>by unfold rwGL;rw[loopF_succ,rwG_step];rfl) s.length 0 _ (by omega) (by omega))⟩
theorem row_s {s:List UInt8}(hs:s.length≤100000):∃ fu,prun (enH [(177,tcB smaD)] [] []) hRw fu false fRw [.str s,.clo 177 []]=some (.str (s.takeWhile lSma)) :=
 ⟨s.length+1,(rwS_raw smaD _ s).trans (row_gen (p:=lSma) (L:=rwSL smaD (s.length+1)) hs (fun n i=>by unfold rwSL;rw[loopF_succ,rwS_step];rfl) s.length 0 _ (by omega) (by omega))⟩
theorem row_one {m:FuncId}{p:PFn}(hp:FOK NGs Ws m p){q:UInt8→Bool}(hr:∀ s:List UInt8,s.length≤100000→∃ fu,prun (enH [(m,p)] [] []) hRw fu false fRw [.str s,.clo m []]=some (.str (s.takeWhile q))) :
  FOK NGs Ws 174 (tRow fun n s=>if n=m then rowF q s else none) :=
 fokH woks (allOK_cons hp allOK_nil) allH_nil allI_nil (h:=hRw) Tryz.func174 rfl (by decide) (tRow_nat _) fun xs r h=>by
  simp only[tRow] at h
  split at h
  ·obtain⟨x,hx,h3⟩:=Option.bind_eq_some_iff.1 h
   obtain⟨hn,hx2⟩:=ite_inv hx
   subst hn
   unfold rowF at hx2
   obtain⟨hs,hx3⟩:=bif_inv hx2
   injection hx3 with hx4
   subst hx4
   obtain⟨fu,hr⟩:=hr _ (of_decide_eq_true hs)
   exact⟨fu,hr.trans h3⟩
  ·cases h
theorem ok_row:FOK NGs Ws 174 (tRow rowD) where
 nat:=tRow_nat _
 call := fun M xs vs r hW hng hg hr hF=>by
  have hd:=row_one ok_dig (q:=lDig) fun s hs=>row_d hs
  have hgr:=row_one ok_gre (q:=lGre) fun s hs=>row_g hs
  have hsm:=row_one ok_sma (q:=lSma) fun s hs=>row_s hs
  simp only[tRow] at hF
  split at hF
  ·rename_i s n
   obtain⟨x,hx,h3⟩:=Option.bind_eq_some_iff.1 hF
   unfold rowD at hx
   split at hx
   ·rename_i hn
    exact hd.call M _ vs r hW hng hg hr (by simp only[tRow];rw[if_pos hn,hx];exact h3)
   ·split at hx
    ·rename_i hn
     exact hgr.call M _ vs r hW hng hg hr (by simp only[tRow];rw[if_pos hn,hx];exact h3)
    ·split at hx
     ·rename_i hn
      exact hsm.call M _ vs r hW hng hg hr (by simp only[tRow];rw[if_pos hn,hx];exact h3)
     ·cases hx
  ·cases hF
def qsc:List UInt8→Option (List UInt8×List UInt8×List UInt8)
 |[]=>none
 |[c]=>if c=39 then some ([],[],[]) else none
 |c::d::t=>if c=39 then (if d=39 then (qsc t).map fun r=>(39::39::r.1,39::r.2.1,r.2.2) else some ([],[],d::t)) else (qsc (d::t)).map fun r=>(c::r.1,c::r.2.1,r.2.2)
theorem qsc_ok:∀ (k:Nat) (l:List UInt8) (r u x:List UInt8),l.length≤k→qsc l=some (r,u,x)→Dbl r u∧l=r++39::x∧x.head? ≠ some 39
 |_,[],r,u,x,_,h=>by cases h
 |_,[c],r,u,x,_,h=>by
  rw[qsc] at h
  obtain⟨hc,h⟩:=ite_inv h
  injection h with h
  injection h with h1 h
  injection h with h2 h3
  subst h1 h2 h3 hc
  exact⟨.nil,rfl,by simp⟩
 |0,c::d::t,r,u,x,hk,h=>by simp at hk
 |k+1,c::d::t,r,u,x,hk,h=>by
  rw[qsc] at h
  by_cases hc:c=39
  ·rw[if_pos hc] at h
   by_cases hd:d=39
   ·rw[if_pos hd] at h
    obtain⟨⟨r',u',x'⟩,hq,h⟩:=Option.map_eq_some_iff.1 h
    injection h with h1 h
    injection h with h2 h3
    subst h1 h2 h3 hc hd
    obtain⟨g1,g2,g3⟩:=qsc_ok k t r' u' x' (by simp at hk;omega) hq
    exact⟨.q g1,by rw[g2];rfl,g3⟩
   ·rw[if_neg hd] at h
    injection h with h
    injection h with h1 h
    injection h with h2 h3
    subst h1 h2 h3 hc
    exact⟨.nil,rfl,by simpa using hd⟩
  ·rw[if_neg hc] at h
   obtain⟨⟨r',u',x'⟩,hq,h⟩:=Option.map_eq_some_iff.1 h
   injection h with h1 h
   injection h with h2 h3
   subst h1 h2 h3
   obtain⟨g1,g2,g3⟩:=qsc_ok k (d::t) r' u' x' (by simp at hk ⊢;omega) hq
   exact⟨.c hc g1,by rw[g2];rfl,g3⟩
def quV (s:List UInt8)(i:Nat):List UInt8:=match qsc (s.drop i) with
 |none=>[]
 |some r=>s.take (i+r.1.length+1)
theorem n39 {c:UInt8}:((c.toNat:Int)==39)=decide (c=39):=by
 by_cases h:c=39
 ·subst h;rfl
 ·rw[decide_eq_false h,beq_eq_false_iff_ne]
  intro e
  apply h
  apply UInt8.toNat_inj.1
  have:(39:UInt8).toNat=39:=rfl
  omega
theorem qu_loop (fu:Nat)(s:List UInt8)(hs:s.length≤100000):∀ (k i n:Nat),i+k=s.length→k<n→quL fu n (frQu s (i:Int))=some (.str (quV s i))
 |k,i,0,_,h=>by omega
 |0,i,n+1,hi,hn=>by
  unfold quL quV
  rw[loopF_succ,qu_step,cond_f (decide_eq_false (by omega)),List.drop_of_length_le (by omega),qsc]
 |k+1,i,n+1,hi,hn=>by
  have hc:=List.getElem?_eq_getElem (l:=s) (i:=i) (by omega)
  have hd:=List.drop_eq_getElem_cons (show i<s.length by omega)
  generalize s[i]'(by omega)=c at hc hd
  have ih:=qu_loop fu s hs k (i+1) n (by omega) (by omega)
  have e1:(i:Int)+1=((i+1:Nat):Int):=by omega
  have ends:∀ x,qsc (s.drop i)=some ([],x)→sl0 s ((i+1:Nat):Int) (fun r=>some (PV.str r))=some (.str (quV s i)):=fun x hx=>by
   unfold sl0 quV
   rw[hx,cond_t (by simp only[Bool.and_eq_true,decide_eq_true_eq];omega),Int.toNat_natCast]
   rfl
  unfold quL at ih ⊢
  rw[loopF_succ,qu_step,cond_t (decide_eq_true (by omega)),ixB_eq hc,wrapI_of (by omega) (by omega),n39,e1]
  by_cases hq:c=39
  ·rw[decide_eq_true hq]
   simp only[Bool.not_true,cond_false]
   cases k with
   |zero =>
    rw[cond_f (decide_eq_false (by omega))]
    have hx:s.drop (i+1)=[]:=List.drop_of_length_le (by omega)
    exact ends ([],[]) (by rw[hd,hx,qsc,if_pos hq])
   |succ k =>
    have hc2:=List.getElem?_eq_getElem (l:=s) (i:=i+1) (by omega)
    have hd2:=List.drop_eq_getElem_cons (show i+1<s.length by omega)
    generalize s[i+1]'(by omega)=d at hc2 hd2
    rw[cond_t (decide_eq_true (by omega)),ixB_eq hc2,n39]
    by_cases hq2:d=39
    ·have ih2:=qu_loop fu s hs k (i+1+1) n (by omega) (by omega)
     unfold quL at ih2
     rw[decide_eq_true hq2,cond_true,wrapI_of (by omega) (by omega),show ((i+1:Nat):Int)+1=((i+1+1:Nat):Int) by omega]
     refine ih2.trans ?_
     unfold quV
     rw[hd,hd2,qsc,if_pos hq,if_pos hq2]
     cases qsc (s.drop (i+1+1)) with
     |none=>rfl
     |some r =>
      show some (PV.str (s.take (i+1+1+r.1.length+1)))=some (PV.str (s.take (i+(39::39::r.1).length+1)))
      rw[show i+(39::39::r.1).length+1=i+1+1+r.1.length+1 by simp only[List.length_cons];omega]
    ·rw[decide_eq_false hq2,cond_false]
     exact ends ([],d::s.drop (i+1+1)) (by rw[hd,hd2,qsc,if_pos hq,if_neg hq2])
  ·rw[decide_eq_false hq]
   simp only[Bool.not_false,cond_true]
   refine ih.trans ?_
   unfold quV
   rw[hd]
   have:qsc (c::s.drop (i+1))=(qsc (s.drop (i+1))).map fun r=>(c::r.1,c::r.2.1,r.2.2):=by
    cases s.drop (i+1) with
    |nil =>
     show (if c=39 then some ([],[],[]) else none)=none
     rw[if_neg hq]
    |cons d t=>rw[qsc,if_neg hq]
   rw[this]
   cases qsc (s.drop (i+1)) with
   |none=>rfl
   |some r =>
    show some (PV.str (s.take (i+1+r.1.length+1)))=some (PV.str (s.take (i+(c::r.1).length+1)))
    rw[show i+(c::r.1).length+1=i+1+r.1.length+1 by simp only[List.length_cons];omega]
def quD (s:List UInt8):Option (List UInt8):=bif decide (1≤s.length)&&decide (s.length≤100000) then some (quV s 1) else none
theorem ok_qu:FOK NGs Ws 170 (tS1 quD):=fok_tS1 woks allOK_nil allH_nil (h:=hQu) Tryz.func170 rfl (by decide) fun s r h=>by
 unfold quD at h
 obtain⟨hs,h⟩:=bif_inv h
 injection h with h
 subst h
 simp only[Bool.and_eq_true,decide_eq_true_eq] at hs
 exact⟨s.length+1,(qu_raw _ s).trans (qu_loop _ s hs.2 (s.length-1) 1 _ (by omega) (by omega))⟩
def keysStr:List UInt8:=[65,68,68,32,65,76,84,69,82,32,65,78,68,32,65,83,32,66,79,79,76,32,66,89,32,66,89,84,69,83,32,67,65,83,84,32,67,79,76,85,77,78,32,67,79,85,78,84,32,67,82,69,65,84,69,32,68,69,67,73,77,65,76,32,68,69,70,65,85,76,84,32,68,69,76,69,84,69,32,68,69,83,67,32,68,82,79,80,32,70,65,76,83,69,32,70,82,79,77,32,71,82,79,85,80,32,73,78,68,69,88,32,73,78,83,69,82,84,32,73,78,84,32,73,78,84,79,32,73,83,32,74,79,73,78,32,76,73,77,73,84,32,77,65,88,32,77,73,78,32,78,79,84,32,78,85,76,76,32,79,78,32,79,82,32,79,82,68,69,82,32,83,69,76,69,67,84,32,83,69,84,32,83,85,77,32,84,65,66,76,69,32,84,69,88,84,32,84,82,85,69,32,84,89,80,69,32,85,78,73,81,85,69,32,85,80,68,65,84,69,32,86,65,76,85,69,83,32,87,72,69,82,69]
def keysL:List (List UInt8):=[[65,68,68],[65,76,84,69,82],[65,78,68],[65,83],[66,79,79,76],[66,89],[66,89,84,69,83],[67,65,83,84],[67,79,76,85,77,78],[67,79,85,78,84],[67,82,69,65,84,69],[68,69,67,73,77,65,76],[68,69,70,65,85,76,84],[68,69,76,69,84,69],[68,69,83,67],[68,82,79,80],[70,65,76,83,69],[70,82,79,77],[71,82,79,85,80],[73,78,68,69,88],[73,78,83,69,82,84],[73,78,84],[73,78,84,79],[73,83],[74,79,73,78],[76,73,77,73,84],[77,65,88],[77,73,78],[78,79,84],[78,85,76,76],[79,78],[79,82],[79,82,68,69,82],[83,69,76,69,67,84],[83,69,84],[83,85,77],[84,65,66,76,69],[84,69,88,84],[84,82,85,69],[84,89,80,69],[85,78,73,81,85,69],[85,80,68,65,84,69],[86,65,76,85,69,83],[87,72,69,82,69]]
theorem keys_fields:Lib.fields keysStr=keysL:=by kernel_rfl
def keysD:Option (Option Bool×Nat×List PV):=some (some false,keysL.length,keysL.flatMap stC)
theorem keys_raw (ff:List UInt8→Option (Option Bool×Nat×List PV)):prun (enH [(198,tWs ff)] [] []) hh0 0 false Tryz.f176 []=(ff keysStr).bind fun r=>some (.sl r.1 1 r.2.1 r.2.2):=by kernel_rfl
theorem fld_keys:fldF keysStr=keysD:=by
 unfold fldF keysD
 rw[keys_fields,cond_t (by decide)]
theorem ok_keys:FOK NGs Ws 176 (tWs0 keysD) :=
 fokH woks (allOK_cons ok_fld allOK_nil) allH_nil allI_nil (h:=hh0) Tryz.func176 rfl (by decide) (tWs0_nat _) fun xs r h=>by
  simp only[tWs0] at h
  split at h
  ·refine⟨0,(keys_raw fldF).trans ?_⟩
   rw[fld_keys]
   exact h
  ·cases h
def bsD (n:Nat)(c:List PV)(w:List UInt8):Option (Int×Bool):=bif c.all isStr&&(decide (c.length=n)&&(decide (0<n)&&decide (n≤1000000))) then some ((placeI c w:Int),decide (placeI c w<n)&&strAt c (placeI c w)==w) else none
theorem ok_bsD:FOK NGs Ws 175 (tBs bsD):=fok_wk ok_bs (tBs_nat _) rfl fun xs r h=>by
 simp only[tBs] at h
 split at h
 ·rename_i nl z n c w
  obtain⟨hz,h2⟩:=ite_inv h
  subst hz
  obtain⟨q,hq,h3⟩:=Option.bind_eq_some_iff.1 h2
  unfold bsD at hq
  obtain⟨hb,hq2⟩:=bif_inv hq
  injection hq2 with hq3
  subst hq3
  simp only[p_bs,hb,cond_true]
  exact h3
 ·cases h
def keyC:List PV:=keysL.flatMap stC
theorem keys_found:keysL.all (fun w=>decide (placeI keyC w<keysL.length)&&strAt keyC (placeI keyC w)==w)=true:=by decide +kernel
theorem keys_at:(List.range keysL.length).all (fun i=>conA keysL (strAt keyC i))=true:=by decide +kernel
theorem conA_iff {l:List (List UInt8)}{w:List UInt8}:conA l w=true↔w∈l:=by
 unfold conA
 rw[List.any_eq_true]
 constructor
 ·rintro ⟨x,hx,h⟩
  rw[beq_iff_eq] at h
  exact h ▸ hx
 ·intro h
  exact⟨w,h,beq_self_eq_true w⟩
theorem bs_keys (w:List UInt8):∃ i,bsD keysL.length (keysL.flatMap stC) w=some (i,conA keysL w):=by
 refine⟨(placeI keyC w:Int),?_⟩
 show bsD keysL.length keyC w=_
 unfold bsD
 rw[cond_t (by decide +kernel)]
 congr 2
 rw[Bool.eq_iff_iff,conA_iff]
 constructor
 ·intro h
  simp only[Bool.and_eq_true,decide_eq_true_eq,beq_iff_eq] at h
  have:=List.all_eq_true.1 keys_at (placeI keyC w) (List.mem_range.2 h.1)
  rw[h.2] at this
  exact conA_iff.1 this
 ·intro h
  exact List.all_eq_true.1 keys_found w h
theorem numF_bind {α β:Type}{fp:List UInt8→Option (Int×Int×Bool)}{x:List UInt8}{k:TR→Int→Bool→Option α}{g:α→Option β}:(numF fp x k).bind g=numF fp x fun t n b=>(k t n b).bind g:=by simp only[numF,cond_bindo,Option.bind_assoc]
theorem numO_bind {α β:Type}{fr:FuncId→List UInt8→Option (List UInt8)}{fd:Int→Option Bool}{fp:List UInt8→Option (Int×Int×Bool)}{s:List UInt8}{k:TR→Int→Bool→Option α}{g:α→Option β}:(numO fr fd fp s k).bind g=numO fr fd fp s fun t n b=>(k t n b).bind g:=by
 simp only[numO,cond_bindo,Option.bind_assoc,ixB_bind,catS_bind,numF_bind,none_bindo]
def numD (s:List UInt8):Option (TR×Int×Bool):=numO rowD digD parD s fun t n b=>some (t,n,b)
theorem ok_numD:FOK NGs Ws 172 (tTk numD):=fok_tTk woks (allOK_cons ok_row (allOK_cons ok_dig (allOK_cons ok_parD allOK_nil))) allH_nil (h:=hh0) Tryz.func172 rfl (by decide) fun s r h=>by
 refine⟨0,(num_raw' rowD digD parD 0 s).trans ?_⟩
 have:=congrArg (fun o=>o.bind fun r:TR×Int×Bool=>some (PV.tuple [.agg r.1.cells,.int .i64 r.2.1,.bool r.2.2])) h
 simp only[numD,numO_bind,Option.bind_some] at this
 exact this
def ctsD (s t:List UInt8):Option Bool:=match t with
 |[c]=>some (decide (0≤Lib.indexByte s c))
 |_=>none
theorem ok_ctsD:FOK NGs Ws 223 (tSSb ctsD):=fok_wk ok_cts (tSSb_nat _) rfl fun xs r h=>by
 simp only[tSSb] at h
 split at h
 ·rename_i s t
  obtain⟨q,hq,h⟩:=Option.bind_eq_some_iff.1 h
  unfold ctsD at hq
  split at hq
  ·exact h
  ·exact absurd hq (by simp)
 ·cases h
theorem sgn1_bind {α β:Type}{ft:List UInt8→List UInt8→Option Bool}{s:List UInt8}{k:TR→Int→Bool→Option α}{g:α→Option β}:(sgn1 ft s k).bind g=sgn1 ft s fun t n b=>(k t n b).bind g:=by simp only[sgn1,cond_bindo,Option.bind_assoc,none_bindo]
theorem sgnO_bind {α β:Type}{fc:Nat→List PV→List UInt8→Option Bool}{ft:List UInt8→List UInt8→Option Bool}{s:List UInt8}{k:TR→Int→Bool→Option α}{g:α→Option β}:(sgnO fc ft s k).bind g=sgnO fc ft s fun t n b=>(k t n b).bind g:=by
 simp only[sgnO,cond_bindo,Option.bind_assoc,sgn1_bind,none_bindo]
def sgnD (s:List UInt8):Option (TR×Int×Bool):=sgnO conN ctsD s fun t n b=>some (t,n,b)
theorem ok_sgnD:FOK NGs Ws 178 (tTk sgnD):=fok_tTk woks (allOK_cons (ok_con woks) (allOK_cons ok_ctsD allOK_nil)) allH_nil (h:=hh0) Tryz.func178 rfl (by decide) fun s r h=>by
 refine⟨0,(sgn_raw' conN ctsD 0 s).trans ?_⟩
 have:=congrArg (fun o=>o.bind fun r:TR×Int×Bool=>some (PV.tuple [.agg r.1.cells,.int .i64 r.2.1,.bool r.2.2])) h
 simp only[sgnD,sgnO_bind,Option.bind_some] at this
 exact this
def FTkD:FTk:=⟨litD,quD,digD,numD,greD,rowD,keysD,bsD,smaD,sgnD⟩
theorem tokR_bind {α β:Type}{F:FTk}{v:UInt8}{s:List UInt8}{k:TR→Int→Bool→Option α}{g:α→Option β}:(tokR F v s k).bind g=tokR F v s fun t n b=>(k t n b).bind g:=by
 simp only[tokR,cond_bindo,Option.bind_assoc,none_bindo]
theorem tokO_bind {α β:Type}{F:FTk}{s:List UInt8}{k:TR→Int→Bool→Option α}{g:α→Option β}:(tokO F s k).bind g=tokO F s fun t n b=>(k t n b).bind g:=by
 simp only[tokO,cond_bindo,Option.bind_assoc,ixB_bind,catS_bind,tokR_bind,none_bindo]
def tokD (s:List UInt8):Option (TR×Int×Bool):=tokO FTkD s fun t n b=>some (t,n,b)
theorem ok_tokD:FOK NGs Ws 94 (tTk tokD):=fok_tTk woks (allOK_cons ok_litD (allOK_cons ok_qu (allOK_cons ok_dig (allOK_cons ok_numD (allOK_cons ok_gre (allOK_cons ok_row (allOK_cons ok_keys (allOK_cons ok_bsD (allOK_cons ok_sma (allOK_cons ok_sgnD allOK_nil)))))))))) allH_nil (h:=hh0) Tryz.func94 rfl (by decide) fun s r h=>by
 refine⟨0,(tok_raw FTkD 0 s).trans ?_⟩
 have:=congrArg (fun o=>o.bind fun r:TR×Int×Bool=>some (PV.tuple [.agg r.1.cells,.int .i64 r.2.1,.bool r.2.2])) h
 simp only[tokD,tokO_bind,Option.bind_some] at this
 exact this
def vTok (v:Val):TR:=⟨2,0,[],v.kind,v.n,v.scale,v.s⟩
def nTok (p:Int×Nat):TR:=bif decide (0<p.2) then ⟨2,0,[],3,p.1,p.2,[]⟩ else ⟨2,0,[],2,p.1,0,[]⟩
def numText (s:List UInt8):List UInt8:=match s.drop (s.takeWhile lDig).length with
 |v::w::t=>bif v==46&&lDig w then s.takeWhile lDig++46::(w::t).takeWhile lDig else s.takeWhile lDig
 |_=>s.takeWhile lDig
def sg2:List (List UInt8):=[[60,61],[62,61],[60,62]]
def sgC (c:UInt8):Bool:=decide (0≤Lib.indexByte sgW c)
def signV:List UInt8→Option (TR×Nat)
 |[]=>none
 |[c]=>bif sgC c then some (⟨3,0,[c],0,0,0,[]⟩,1) else none
 |c::d::_=>bif conA sg2 [c,d] then some (⟨3,0,[c,d],0,0,0,[]⟩,2) else bif sgC c then some (⟨3,0,[c],0,0,0,[]⟩,1) else none
def tokV:List UInt8→Option (TR×Nat)
 |[]=>none
 |c::t =>
  if c=39 then (qsc t).bind fun r=>bif (txtV r.2.1).2 then some (vTok (txtV r.2.1).1,r.1.length+2) else none
  else if c=88∧t.head? = some 39 then (qsc t.tail).bind fun r=>bif (bytV r.2.1).2 then some (vTok (bytV r.2.1).1,r.1.length+3) else none
  else if lDig c then (parseP (numText (c::t))).map fun p=>(nTok p,(numText (c::t)).length)
  else if lGre c then bif conA keysL ((c::t).takeWhile lGre) then some (⟨1,0,(c::t).takeWhile lGre,0,0,0,[]⟩,((c::t).takeWhile lGre).length) else none
  else if lSma c∧c≠95 then bif decide (((c::t).takeWhile lSma).length≤24) then some (⟨0,0,(c::t).takeWhile lSma,0,0,0,[]⟩,((c::t).takeWhile lSma).length) else none
  else signV (c::t)
theorem n_eq (v w:UInt8):((v.toNat:Int)==(w.toNat:Int))=(v==w):=by
 rw[Bool.eq_iff_iff,beq_iff_eq,beq_iff_eq]
 constructor
 ·intro h;apply UInt8.toNat_inj.1;omega
 ·rintro rfl;rfl
theorem tw_len {p:UInt8→Bool}(s:List UInt8):(s.takeWhile p).length≤s.length:=(List.takeWhile_prefix p).length_le
def numRes (x:List UInt8):TR×Int×Bool:=match parseP x with
 |none=>(⟨2,0,[],2,0,0,[]⟩,(x.length:Int),false)
 |some p=>(nTok p,(x.length:Int),true)
theorem numF_eq {x:List UInt8}(h:x.length≤4000):numF parD x (fun t n b=>some (t,n,b))=some (numRes x):=by
 unfold numF parD numRes nTok
 rw[cond_t (decide_eq_true h),Option.bind_some]
 cases parseP x with
 |none=>rfl
 |some p =>
  show (bif decide ((0:Int)<(p.2:Int)) then _ else _)=_
  rw[show decide ((0:Int)<(p.2:Int))=decide (0<p.2) by by_cases h:0<p.2<;>simp[h]]
  simp only[Option.elim_some,Option.isSome_some]
  cases decide (0<p.2)<;>rfl
theorem numText_len (s:List UInt8):(numText s).length≤s.length:=by
 unfold numText
 have h1:=tw_len (p:=lDig) s
 split
 ·rename_i v w t h
  have h2:=congrArg List.length h
  rw[List.length_drop] at h2
  simp only[List.length_cons] at h2
  cases v==46&&lDig w with
  |false=>exact h1
  |true =>
   have h3:=tw_len (p:=lDig) (w::t)
   simp only[cond_true,List.length_append,List.length_cons] at h3 ⊢
   omega
 ·exact h1
theorem numD_eq {s:List UInt8}(h:s.length≤2000):numD s=some (numRes (numText s)):=by
 have h1:=tw_len (p:=lDig) s
 have hl:=numText_len s
 unfold numD numO
 have hr:∀ x:List UInt8,x.length≤100000→rowD 171 x=some (x.takeWhile lDig):=fun x hx=>by
  unfold rowD rowF
  rw[if_pos rfl,cond_t (decide_eq_true hx)]
 rw[hr s (by omega),Option.bind_some,cond_t (by simp only[Bool.and_eq_true,decide_eq_true_eq];omega),List.take_length,Int.toNat_natCast]
 rw[numText] at hl ⊢
 rcases hd:s.drop (s.takeWhile lDig).length with _|⟨v,_|⟨w,t⟩⟩
 ·rw[cond_f (by rfl)]
  exact numF_eq (by omega)
 ·rw[cond_f (by rfl)]
  exact numF_eq (by omega)
 ·rw[hd] at hl
  have h2:=congrArg List.length hd
  rw[List.length_drop] at h2
  simp only[List.length_cons] at h2
  rw[cond_t (decide_eq_true (by simp only[List.length_cons];omega)),show (0:Int)=((0:Nat):Int) from rfl,ixB_eq (c:=v) (by rfl),show ((v.toNat:Int)==46)=(v==46) from n_eq v 46]
  simp only at hl ⊢
  cases hv:v==46 with
  |false =>
   simp only[cond_false,Bool.false_and]
   exact numF_eq (by omega)
  |true =>
   rw[cond_true,show (1:Int)=((1:Nat):Int) from rfl,ixB_eq (c:=w) (by rfl),Bool.true_and]
   show (some (lDig w)).bind _=_
   rw[Option.bind_some]
   rw[hv,Bool.true_and] at hl
   cases hw:lDig w with
   |false =>
    simp only[cond_false]
    exact numF_eq (by omega)
   |true =>
    rw[hw] at hl
    simp only[cond_true] at hl ⊢
    rw[cond_t (decide_eq_true (by simp only[List.length_cons];omega)),List.take_length,List.drop_succ_cons,List.drop_zero,hr (w::t) (by simp only[List.length_cons];omega),Option.bind_some]
    have h3:=tw_len (p:=lDig) (w::t)
    rw[catS_eq (by simp only[List.length_cons,List.length_nil] at h3 ⊢;omega),catS_eq (by simp only[List.length_cons,List.length_nil,List.length_append] at hl h3 ⊢;omega)]
    exact numF_eq (by simp only[List.length_append,List.length_cons,List.length_nil] at hl ⊢;omega)
def TokIs (o:Option (TR×Int×Bool))(v:Option (TR×Nat)):Prop:=∃ q n b,o=some (q,n,b)∧match v with
 |none=>b=false
 |some r=>b=true∧q=r.1∧n=(r.2:Int)
theorem sgn1_eq (c:UInt8)(t:List UInt8):sgn1 ctsD (c::t) (fun t n b=>some (t,n,b))=some (⟨3,0,[c],0,0,0,[]⟩,1,sgC c):=by
 unfold sgn1
 have:decide ((1:Int)≤(((c::t).length:Nat):Int))=true:=decide_eq_true (by simp only[List.length_cons];omega)
 rw[this]
 rfl
theorem sgn_tok {s:List UInt8}(hs:s≠[]):TokIs (sgnD s) (signV s):=by
 rcases s with _|⟨c,_|⟨d,t⟩⟩
 ·exact absurd rfl hs
 ·unfold sgnD sgnO
  rw[cond_f (by rfl),sgn1_eq,signV]
  refine⟨_,_,_,rfl,?_⟩
  cases sgC c with
  |false=>rfl
  |true=>exact⟨rfl,rfl,rfl⟩
 ·unfold sgnD sgnO
  rw[cond_t (decide_eq_true (by simp only[List.length_cons];omega)),cond_t (decide_eq_true (by simp only[List.length_cons];omega)),cond_t (decide_eq_true (by simp only[List.length_cons];omega)),sgn1_eq,signV]
  have:conN 3 [.str [60,61],.str [62,61],.str [60,62]] (((c::d::t).take 2).drop 0)=some (conA sg2 [c,d]):=rfl
  rw[this,Option.bind_some]
  cases conA sg2 [c,d] with
  |true=>exact⟨_,_,_,rfl,rfl,rfl,rfl⟩
  |false =>
   refine⟨_,_,_,rfl,?_⟩
   simp only[cond_false]
   cases sgC c with
   |false=>rfl
   |true=>exact⟨rfl,rfl,rfl⟩
theorem lit_nil:litD []=some (⟨2,0,[],0,0,0,[]⟩,0,false):=by kernel_rfl
theorem lit_of {s:List UInt8}{v:Val×Bool}(h:vparD s=some v)(hs:s≠[]):litD s=some (vTok v.1,(s.length:Int),v.2):=by
 unfold litD litO
 rw[h,Option.bind_some,beq_eq_false_iff_ne.2 hs]
 simp[vTok]
theorem qu_of {t:List UInt8}(h:(39::t).length≤2000):quD (39::t)=some (match qsc t with|none=>[]|some r=>qt r.1):=by
 unfold quD
 rw[cond_t (by simp only[Bool.and_eq_true,decide_eq_true_eq,List.length_cons] at h ⊢;omega)]
 unfold quV
 rw[List.drop_succ_cons,List.drop_zero]
 cases hq:qsc t with
 |none=>rfl
 |some r =>
  obtain⟨h1,h2,-⟩:=qsc_ok _ t r.1 r.2.1 r.2.2 (Nat.le_refl _) hq
  show some ((39::t).take (1+r.1.length+1))=some (qt r.1)
  rw[show 1+r.1.length+1=(r.1.length+1)+1 by omega,List.take_succ_cons,h2]
  unfold qt
  rw[List.take_append]
  simp[List.take_of_length_le]
theorem tok_spec {c:UInt8}{t:List UInt8}(hl:(c::t).length≤2000):TokIs (tokD (c::t)) (tokV (c::t)):=by
 have hl':t.length≤1999:=by simp only[List.length_cons] at hl;omega
 unfold tokD tokO
 rw[show (0:Int)=((0:Nat):Int) from rfl,ixB_eq (c:=c) (by rfl),show ((c.toNat:Int)==39)=(c==39) from n_eq c 39,tokV]
 by_cases h39:c=39
 ·subst h39
  rw[beq_self_eq_true,cond_true,if_pos rfl]
  show TokIs ((quD (39::t)).bind fun q=>(litD q).bind fun t=>some (t.1,t.2.1,t.2.2)) _
  rw[qu_of hl,Option.bind_some]
  cases hq:qsc t with
  |none =>
   simp only[lit_nil,Option.bind_some,Option.bind_none]
   exact⟨_,_,_,rfl,rfl⟩
  |some r =>
   obtain⟨h1,h2,-⟩:=qsc_ok _ t r.1 r.2.1 r.2.2 (Nat.le_refl _) hq
   have h3:r.1.length≤2000:=by
    have:=congrArg List.length h2
    simp only[List.length_append,List.length_cons] at this
    omega
   simp only[Option.bind_some]
   rw[lit_of (vpar_text h1 (by omega)) (by unfold qt;simp),Option.bind_some]
   refine⟨_,_,_,rfl,?_⟩
   cases h4:(txtV r.2.1).2 with
   |false=>rfl
   |true=>exact⟨rfl,rfl,by rw[qt_len]⟩
 rw[beq_eq_false_iff_ne.2 h39,cond_false,if_neg h39,show ((c.toNat:Int)==88)=(c==88) from n_eq c 88]
 have hR : ¬ (c=88∧t.head? = some 39)→TokIs (tokR FTkD c (c::t) fun t n b=>some (t,n,b)) (if lDig c then (parseP (numText (c::t))).map fun p=>(nTok p,(numText (c::t)).length)
  else if lGre c then bif conA keysL ((c::t).takeWhile lGre) then some (⟨1,0,(c::t).takeWhile lGre,0,0,0,[]⟩,((c::t).takeWhile lGre).length) else none
  else if lSma c∧c≠95 then bif decide (((c::t).takeWhile lSma).length≤24) then some (⟨0,0,(c::t).takeWhile lSma,0,0,0,[]⟩,((c::t).takeWhile lSma).length) else none
  else signV (c::t)):=fun _=>by
  unfold tokR
  show TokIs ((some (lDig c)).bind _) _
  rw[Option.bind_some]
  cases hd:lDig c with
  |true =>
   simp only[cond_true,if_true]
   show TokIs ((numD (c::t)).bind _) _
   rw[numD_eq hl,Option.bind_some]
   unfold numRes
   cases parseP (numText (c::t)) with
   |none=>exact⟨_,_,_,rfl,rfl⟩
   |some p=>exact⟨_,_,_,rfl,rfl,rfl,rfl⟩
  |false =>
   simp only[cond_false,Bool.false_eq_true,if_false]
   show TokIs ((some (lGre c)).bind _) _
   rw[Option.bind_some]
   cases hg:lGre c with
   |true =>
    simp only[cond_true,if_true]
    have:FTkD.fr 173 (c::t)=some ((c::t).takeWhile lGre):=by
     show rowD 173 (c::t)=_
     unfold rowD rowF
     rw[if_neg (by decide),if_pos rfl,cond_t (decide_eq_true (by omega))]
    rw[this,Option.bind_some]
    rw[show FTkD.fk=some (some false,keysL.length,keysL.flatMap stC) from rfl,Option.bind_some]
    show TokIs ((bsD keysL.length (keysL.flatMap stC) ((c::t).takeWhile lGre)).bind _) _
    obtain⟨i,hi⟩:=bs_keys ((c::t).takeWhile lGre)
    rw[hi,Option.bind_some]
    refine⟨_,_,_,rfl,?_⟩
    cases conA keysL ((c::t).takeWhile lGre) with
    |false=>rfl
    |true=>exact⟨rfl,rfl,rfl⟩
   |false =>
    simp only[cond_false,Bool.false_eq_true,if_false]
    show TokIs ((some (lSma c)).bind _) _
    rw[Option.bind_some,show ((c.toNat:Int)==95)=(c==95) from n_eq c 95]
    by_cases hs:lSma c=true∧c≠95
    ·rw[if_pos hs,hs.1,beq_eq_false_iff_ne.2 hs.2]
     simp only[Bool.true_and,Bool.not_false,cond_true]
     have:FTkD.fr 177 (c::t)=some ((c::t).takeWhile lSma):=by
      show rowD 177 (c::t)=_
      unfold rowD rowF
      rw[if_neg (by decide),if_neg (by decide),if_pos rfl,cond_t (decide_eq_true (by omega))]
     rw[this,Option.bind_some]
     refine⟨_,_,_,rfl,?_⟩
     rw[show decide ((((c::t).takeWhile lSma).length:Int)≤24)=decide (((c::t).takeWhile lSma).length≤24) by
      by_cases h:((c::t).takeWhile lSma).length≤24
      ·rw[decide_eq_true h,decide_eq_true (by omega)]
      ·rw[decide_eq_false h,decide_eq_false (by omega)]]
     cases decide (((c::t).takeWhile lSma).length≤24) with
     |false=>rfl
     |true=>exact⟨rfl,rfl,rfl⟩
    ·rw[if_neg hs]
     have:(lSma c&&!(c==95))=false:=by
      cases h:lSma c with
      |false=>rfl
      |true =>
       have:c=95:=Decidable.byContradiction fun h2=>hs ⟨h,h2⟩
       subst this
       rfl
     rw[this,cond_false]
     show TokIs ((sgnD (c::t)).bind _) _
     obtain⟨q,n,b,h1,h2⟩:=sgn_tok (s:=c::t) (by simp)
     rw[h1,Option.bind_some]
     exact⟨q,n,b,rfl,h2⟩
 by_cases h88:c=88
 ·subst h88
  rw[beq_self_eq_true,cond_true]
  rcases t with _|⟨d,t⟩
  ·rw[decide_eq_false (by simp),cond_false,if_neg (by simp)]
   exact hR (by simp)
  ·rw[decide_eq_true (show (1:Int)<(((88:UInt8)::d::t).length:Int) by simp only[List.length_cons];omega),cond_true,show (1:Int)=((1:Nat):Int) from rfl,ixB_eq (c:=d) (by rfl),show ((d.toNat:Int)==39)=(d==39) from n_eq d 39]
   by_cases hd:d=39
   ·subst hd
    rw[beq_self_eq_true,cond_true,if_pos ⟨rfl,rfl⟩,cond_t (decide_eq_true (by simp only[List.length_cons];omega)),List.take_length,List.drop_succ_cons,List.drop_zero,List.tail_cons]
    show TokIs ((quD (39::t)).bind fun q=>bif q==[] then some (TR.zero,0,false) else catS [88] q fun z=>(litD z).bind fun t=>some (t.1,t.2.1,t.2.2)) _
    rw[qu_of (by simp only[List.length_cons] at hl ⊢;omega),Option.bind_some]
    cases hq:qsc t with
    |none=>exact⟨_,_,_,rfl,rfl⟩
    |some r =>
     obtain⟨h1,h2,-⟩:=qsc_ok _ t r.1 r.2.1 r.2.2 (Nat.le_refl _) hq
     have h3:r.1.length≤2000:=by
      have:=congrArg List.length h2
      simp only[List.length_append,List.length_cons] at this hl'
      omega
     simp only[Option.bind_some]
     rw[show (qt r.1==[])=false from rfl,cond_false,catS_eq (by rw[qt_len];simp;omega),show [(88:UInt8)]++qt r.1=88::qt r.1 from rfl,lit_of (vpar_bytes h1 (by omega)) (by simp),Option.bind_some]
     refine⟨_,_,_,rfl,?_⟩
     cases h4:(bytV r.2.1).2 with
     |false=>rfl
     |true=>exact⟨rfl,rfl,by rw[List.length_cons,qt_len]⟩
   ·rw[beq_eq_false_iff_ne.2 hd,cond_false,if_neg (by simpa using hd)]
    exact hR (by simpa using hd)
 ·rw[beq_eq_false_iff_ne.2 h88,cond_false,cond_false,if_neg (fun h=>h88 h.1)]
  exact hR fun h=>h88 h.1
theorem tw_pos {p:UInt8→Bool}{c:UInt8}{t:List UInt8}(h:p c=true):1≤((c::t).takeWhile p).length:=by
 rw[List.takeWhile_cons,if_pos h]
 simp
theorem numText_pos {c:UInt8}{t:List UInt8}(h:lDig c=true):1≤(numText (c::t)).length:=by
 have h1:=tw_pos (t:=t) h
 unfold numText
 split
 ·rename_i v w u _
  cases v==46&&lDig w with
  |false=>exact h1
  |true=>simp only[cond_true,List.length_append];omega
 ·exact h1
theorem signV_ok {c:UInt8}{t:List UInt8}{r:TR×Nat}(h:signV (c::t)=some r):1≤r.2∧r.2≤(c::t).length∧r.1.k=3∧r.1.t.head? = some c:=by
 rcases t with _|⟨d,t⟩
 ·rw[signV] at h
  obtain⟨-,h⟩:=bif_inv h
  injection h with h
  subst h
  exact⟨Nat.le_refl _,Nat.le_refl _,rfl,rfl⟩
 ·rw[signV] at h
  cases hc:conA sg2 [c,d] with
  |true =>
   rw[hc] at h
   injection h with h
   subst h
   exact⟨Nat.le_succ 1,by simp,rfl,rfl⟩
  |false =>
   rw[hc,cond_false] at h
   obtain⟨-,h⟩:=bif_inv h
   injection h with h
   subst h
   exact⟨Nat.le_refl _,by simp,rfl,rfl⟩
theorem tokV_ok {s:List UInt8}{r:TR×Nat}(h:tokV s=some r):1≤r.2∧r.2≤s.length∧(r.1.k=1→greatB r.1.t=true)∧(r.1.k=3→greatB r.1.t=false):=by
 rcases s with _|⟨c,t⟩
 ·cases h
 rw[tokV] at h
 by_cases h39:c=39
 ·rw[if_pos h39] at h
  obtain⟨q,hq,h⟩:=Option.bind_eq_some_iff.1 h
  obtain⟨-,h⟩:=bif_inv h
  injection h with h
  subst h
  obtain⟨-,h2,-⟩:=qsc_ok _ t q.1 q.2.1 q.2.2 (Nat.le_refl _) hq
  have:=congrArg List.length h2
  simp only[List.length_append,List.length_cons] at this ⊢
  exact⟨by omega,by omega,fun h=>(by cases h),fun h=>(by cases h)⟩
 rw[if_neg h39] at h
 by_cases h88:c=88∧t.head? = some 39
 ·rw[if_pos h88] at h
  obtain⟨q,hq,h⟩:=Option.bind_eq_some_iff.1 h
  obtain⟨-,h⟩:=bif_inv h
  injection h with h
  subst h
  obtain⟨-,h2,-⟩:=qsc_ok _ t.tail q.1 q.2.1 q.2.2 (Nat.le_refl _) hq
  have:=congrArg List.length h2
  have h3:t≠[]:=by rintro rfl;exact absurd h88.2 (by simp)
  have h4:=List.length_pos_iff.2 h3
  simp only[List.length_append,List.length_cons,List.length_tail] at this ⊢
  exact⟨by omega,by omega,fun h=>(by cases h),fun h=>(by cases h)⟩
 rw[if_neg h88] at h
 by_cases hd:lDig c=true
 ·rw[if_pos hd] at h
  obtain⟨p,hp,h⟩:=Option.map_eq_some_iff.1 h
  subst h
  have h2:(nTok p).k=2:=by unfold nTok;cases decide (0<p.2)<;>rfl
  refine⟨numText_pos hd,numText_len _,fun h=>?_,fun h=>?_⟩<;>rw[h2] at h<;>cases h
 rw[if_neg hd] at h
 by_cases hg:lGre c=true
 ·rw[if_pos hg] at h
  obtain⟨-,h⟩:=bif_inv h
  injection h with h
  subst h
  refine⟨tw_pos hg,tw_len _,fun _=>?_,fun h=>(by cases h)⟩
  show greatB ((c::t).takeWhile lGre)=true
  rw[List.takeWhile_cons,if_pos hg,greatB]
  unfold lGre at hg
  simp only[Bool.and_eq_true,decide_eq_true_eq] at hg ⊢
  omega
 rw[if_neg hg] at h
 by_cases hs:lSma c=true∧c≠95
 ·rw[if_pos hs] at h
  obtain⟨-,h⟩:=bif_inv h
  injection h with h
  subst h
  exact⟨tw_pos hs.1,tw_len _,fun h=>(by cases h),fun h=>(by cases h)⟩
 rw[if_neg hs] at h
 obtain⟨h1,h2,h3,h4⟩:=signV_ok h
 refine⟨h1,h2,fun h=>(by rw[h3] at h;cases h),fun _=>?_⟩
 rcases ht:r.1.t with _|⟨d,u⟩
 ·rfl
 ·rw[ht] at h4
  have:d=c:=by simpa using h4
  subst this
  rw[greatB]
  unfold lGre at hg
  by_cases ha:65≤d.toNat
  ·rw[decide_eq_true ha,Bool.true_and]
   apply decide_eq_false
   intro hb
   apply hg
   simp only[Bool.and_eq_true,decide_eq_true_eq]
   omega
  ·rw[decide_eq_false ha]
   rfl
def lexV:Nat→Nat→List UInt8→Nat ⊕ List TR
 |0,_,_=>.inr []
 |_+1,_,[]=>.inr []
 |f+1,i,c::t=>if c=32∨c=10 then lexV f (i+1) t else match tokV (c::t) with
  |none=>.inl i
  |some r=>match lexV f (i+r.2) ((c::t).drop r.2) with
   | .inl a=>.inl a
   | .inr l=>.inr (⟨r.1.k,i,r.1.t,r.1.vk,r.1.vn,r.1.vc,r.1.vs⟩::l)
theorem lexV_ok:∀ (f i:Nat) (s:List UInt8) (l:List TR),lexV f i s=.inr l→l.length≤s.length∧(∀ t∈l,0≤t.a)∧(∀ t∈l,t.k=1→greatB t.t=true)∧(∀ t∈l,t.k=3→greatB t.t=false)
 |0,i,s,l,h=>by
  rw[lexV] at h
  injection h with h
  subst h
  exact⟨Nat.zero_le _,fun t h=>(by cases h),fun t h=>(by cases h),fun t h=>(by cases h)⟩
 |f+1,i,[],l,h=>by
  rw[lexV] at h
  injection h with h
  subst h
  exact⟨Nat.zero_le _,fun t h=>(by cases h),fun t h=>(by cases h),fun t h=>(by cases h)⟩
 |f+1,i,c::t,l,h=>by
  rw[lexV] at h
  split at h
  ·obtain⟨h1,h2,h3,h4⟩:=lexV_ok f _ t l h
   exact⟨by simp only[List.length_cons];omega,h2,h3,h4⟩
  ·split at h
   ·cases h
   ·rename_i r hr
    split at h
    ·cases h
    ·rename_i l' hl'
     injection h with h
     subst h
     obtain⟨h1,h2,h3,h4⟩:=lexV_ok f _ _ l' hl'
     obtain⟨g1,g2,g3,g4⟩:=tokV_ok hr
     rw[List.length_drop] at h1
     refine⟨by simp only[List.length_cons] at g2 h1 ⊢;omega,?_,?_,?_⟩
     ·intro x hx
      rcases List.mem_cons.1 hx with rfl|hx
      ·exact Int.natCast_nonneg i
      ·exact h2 x hx
     ·intro x hx
      rcases List.mem_cons.1 hx with rfl|hx
      ·exact g3
      ·exact h3 x hx
     ·intro x hx
      rcases List.mem_cons.1 hx with rfl|hx
      ·exact g4
      ·exact h4 x hx
theorem lexV_toks {f i:Nat}{s:List UInt8}{l:List TR}(hs:s.length≤5000)(h:lexV f i s=.inr l):TOKs l :=
 let ⟨h1,h2,h3,h4⟩:=lexV_ok f i s l h
 ⟨Nat.le_trans h1 hs,h2,h3,h4⟩
theorem roomT_eq {R:Type}{l m:Nat}{x:Option R}(h:l+m≤1000000):roomT l m x=x:=by
 unfold roomT
 rw[cond_t (by rw[decide_eq_true (by omega),decide_eq_true (by omega)];rfl)]
def lexE (acc:List TR)(o:Nat ⊕ List TR):PV:=match o with
 | .inl a=>.tuple [.sl (some true) 7 0 [],.int .i64 (a:Int),.int .i64 170]
 | .inr l=>.tuple [.sl (some (acc++l).isEmpty) 7 (acc++l).length ((acc++l).flatMap TR.cells),.int .i64 0,.int .i64 0]
theorem lx_loop (fu:Nat)(s:List UInt8)(hs:s.length≤2000):∀ (n f i:Nat) (acc:List TR),i≤s.length→s.length<i+n→s.length<i+f→acc.length≤i →
  lxL tokD fu n (frLx s (some acc.isEmpty) acc.length (acc.flatMap TR.cells) (i:Int))=some (lexE acc (lexV f i (s.drop i)))
 |0,f,i,acc,hi,hn,_,_=>by omega
 |n+1,0,i,acc,hi,_,hf,_=>by omega
 |n+1,f+1,i,acc,hi,hn,hf,ha=>by
  unfold lxL
  rw[loopF_succ,lx_step]
  by_cases hlt:i<s.length
  ·have hc:=List.getElem?_eq_getElem (l:=s) (i:=i) hlt
   have hd:=List.drop_eq_getElem_cons hlt
   generalize s[i]=c at hc hd
   have skip:=lx_loop fu s hs n f (i+1) acc hlt (by omega) (by omega) (by omega)
   unfold lxL at skip
   rw[cond_t (decide_eq_true (by omega)),ixB_eq hc,ixB_eq hc,show ((c.toNat:Int)==32)=(c==32) from n_eq c 32,show ((c.toNat:Int)==10)=(c==10) from n_eq c 10,wrapI_of (by omega) (by omega),show (i:Int)+1=((i+1:Nat):Int) by omega,hd,lexV]
   by_cases h32:c=32
   ·subst h32
    rw[if_pos (Or.inl rfl)]
    exact skip
   rw[beq_eq_false_iff_ne.2 h32]
   simp only[Bool.not_false,cond_true]
   by_cases h10:c=10
   ·subst h10
    rw[if_pos (Or.inr rfl)]
    exact skip
   rw[beq_eq_false_iff_ne.2 h10,cond_false,if_neg (by rintro (h|h);exact h32 h;exact h10 h)]
   unfold lxT
   rw[cond_t (by simp only[Bool.and_eq_true,decide_eq_true_eq];omega),List.take_length,Int.toNat_natCast,hd]
   obtain⟨q,m,b,h1,h2⟩:=tok_spec (c:=c) (t:=s.drop (i+1)) (by rw[← hd,List.length_drop];omega)
   rw[h1,Option.bind_some]
   cases hr:tokV (c::s.drop (i+1)) with
   |none =>
    rw[hr] at h2
    simp only at h2
    subst h2
    rfl
   |some r =>
    rw[hr] at h2
    simp only at h2
    obtain⟨rfl,rfl,rfl⟩:=h2
    obtain⟨g1,g2,-,-⟩:=tokV_ok hr
    rw[← hd,List.length_drop] at g2
    simp only[Bool.not_true,cond_false]
    rw[roomT_eq (by omega),wrapI_of (by omega) (by omega),show (i:Int)+(r.2:Int)=((i+r.2:Nat):Int) by omega]
    have go:=lx_loop fu s hs n f (i+r.2) (acc++[⟨r.1.k,i,r.1.t,r.1.vk,r.1.vn,r.1.vc,r.1.vs⟩]) (by omega) (by omega) (by omega) (by rw[List.length_append];simp only[List.length_cons,List.length_nil];omega)
    unfold lxL at go
    have e1:((some acc.isEmpty).map (· && false))=some (acc++[(⟨r.1.k,i,r.1.t,r.1.vk,r.1.vn,r.1.vc,r.1.vs⟩:TR)]).isEmpty:=by
     show some (acc.isEmpty&&false)=_
     rw[Bool.and_false]
     congr 1
     cases acc<;>rfl
    rw[e1,show acc.length+1=(acc++[(⟨r.1.k,i,r.1.t,r.1.vk,r.1.vn,r.1.vc,r.1.vs⟩:TR)]).length by rw[List.length_append];rfl,
     show acc.flatMap TR.cells++TR.cells ⟨r.1.k,i,r.1.t,r.1.vk,r.1.vn,r.1.vc,r.1.vs⟩=(acc++[(⟨r.1.k,i,r.1.t,r.1.vk,r.1.vn,r.1.vc,r.1.vs⟩:TR)]).flatMap TR.cells by rw[List.flatMap_append];simp]
    refine go.trans ?_
    rw[← hd,List.drop_drop]
    cases lexV f (i+r.2) (s.drop (i+r.2)) with
    |inl a=>rfl
    |inr l=>simp only[lexE,List.append_assoc];rfl
  ·have:i=s.length:=by omega
   subst this
   rw[cond_f (decide_eq_false (by omega)),List.drop_length,lexV]
   simp only[lexE,List.append_nil]
def lxRes (o:Nat ⊕ List TR):LX:=match o with
 | .inl a=>⟨some true,0,[],a,170⟩
 | .inr l=>⟨some l.isEmpty,l.length,l.flatMap TR.cells,0,0⟩
def lexS (s:List UInt8):Nat ⊕ List TR:=bif decide (2000<s.length) then .inl 2000 else lexV (s.length+1) 0 s
def lexD (s:List UInt8):Option LX:=some (lxRes (lexS s))
theorem ok_lexD:FOK NGs Ws 51 (tLx lexD) :=
 fokH woks (allOK_cons ok_tokD allOK_nil) allH_nil allI_nil (h:=hLx) Tryz.func51 rfl (by decide) (tLx_nat _) fun xs r h=>by
  simp only[tLx] at h
  split at h
  ·rename_i s
   refine⟨s.length+1,(lx_raw tokD _ s).trans (Eq.trans ?_ h)⟩
   unfold lexD lexS
   rw[Option.bind_some]
   by_cases hs:s.length≤2000
   ·rw[cond_f (decide_eq_false (by omega)),decide_eq_false (show ¬ 2000<s.length by omega),cond_false]
    refine (lx_loop _ s hs (s.length+1) (s.length+1) 0 [] (Nat.zero_le _) (by omega) (by omega) (Nat.le_refl _)).trans ?_
    rw[List.drop_zero]
    cases lexV (s.length+1) 0 s<;>rfl
   ·rw[cond_t (decide_eq_true (by omega)),decide_eq_true (show 2000<s.length by omega),cond_true]
    rfl
  ·cases h
noncomputable def fIn:Func:=Tryz.f106
def hIn:Hints:=⟨[],[(0,⟨[(0,false),(4,true),(5,false)],[]⟩)]⟩
def frIn (s:List UInt8)(no:Option Bool)(lo:Nat)(co:List PV)(i:Int):St:=frame 57 [(0,(.str s,0)),(4,(.sl no 1 lo co,63)),(5,(.int .i64 i,0))] []
noncomputable def inL (fu n:Nat)(st:St):Option PV:=loopF (enH [] [] []) hIn fu false fIn [1,1,1,1,0,1,0] 0 n st
theorem in_raw (fu:Nat)(s:List UInt8):prun (enH [] [] []) hIn fu false fIn [.str s] =
 bif !decide ((s.length:Int)<2) then ixB s 0 fun v=>bif !!((v.toNat:Int)==39) then ixB s (IntKind.i64.wrap ((s.length:Int)-1)) fun v=>bif !((v.toNat:Int)==39) then failS else
  bif decide (0≤IntKind.i64.wrap ((s.length:Int)-1))&&decide (IntKind.i64.wrap ((s.length:Int)-1)≤(s.length:Int)) then bif decide ((1:Int)≤((IntKind.i64.wrap ((s.length:Int)-1)).toNat:Int)) then
   inL fu fu (frIn ((s.take (IntKind.i64.wrap ((s.length:Int)-1)).toNat).drop 1) (some true) 0 [] 0)
  else none else none
  else failS else failS:=prunN_eq.trans (by kernel_rfl)
theorem in_step (fu:Nat)(s:List UInt8)(no:Option Bool)(lo:Nat)(co:List PV)(i:Int)(K:St→Option PV) :
  stepF (enH [] [] []) hIn fu false fIn [1,1,1,1,0,1,0] (frIn s no lo co i) (fun st=>pnorm (hIn.loop.lookup 0) st K) =
  bif decide (i<(s.length:Int)) then ixB s i fun v=>rmB lo 1 (ixB s i fun w=>bif (w.toNat:Int)==39 then
    (bif !(IntKind.i64.wrap (i+1)==(s.length:Int)) then ixB s (IntKind.i64.wrap (i+1)) fun x=>bif !((x.toNat:Int)==39) then failS else K (frIn s (no.map (· && false)) (lo+1) (co++[bytePV v]) (IntKind.i64.wrap (IntKind.i64.wrap (i+1)+1))) else failS)
   else K (frIn s (no.map (· && false)) (lo+1) (co++[bytePV v]) (IntKind.i64.wrap (i+1))))
  else (pbytes co).bind fun r=>some (.tuple [.str r,.bool true]):=by kernel_rfl
noncomputable def fPs:Func:=Tryz.f55
def hPs:Hints:=⟨[],[(5,⟨[(2,false),(4,false),(7,false),(9,true),(10,false),(11,false),(12,false),(13,false)],[2,4]⟩),(3,⟨[(2,false),(4,false),(7,false),(9,true),(10,false),(11,false),(12,false)],[2,4]⟩),(1,⟨[(2,false),(4,false),(7,false),(9,true),(10,false)],[2,4]⟩)]⟩
def z4:List TV:=[(.int .i64 0,0),(.int .i64 0,0),(.int .i64 0,0),(.str [],0)]
def frPs1 (s:List UInt8)(no:Option Bool)(lo:Nat)(co:List PV)(i:Int):St:=frame 157 [(2,(.ptr 2 0,0)),(4,(.ptr 4 0,0)),(7,(.str s,0)),(9,(.sl no 1 lo co,168)),(10,(.int .i64 i,0))] [(2,z4),(4,z4)]
def frPs3 (s:List UInt8)(no:Option Bool)(lo:Nat)(co:List PV)(i c k:Int):St:=frame 157 [(2,(.ptr 2 0,0)),(4,(.ptr 4 0,0)),(7,(.str s,0)),(9,(.sl no 1 lo co,168)),(10,(.int .i64 i,0)),(11,(.int .i64 c,0)),(12,(.int .i64 k,0))] [(2,z4),(4,z4)]
def frPs5 (s:List UInt8)(no:Option Bool)(lo:Nat)(co:List PV)(i c k d:Int):St:=frame 157 [(2,(.ptr 2 0,0)),(4,(.ptr 4 0,0)),(7,(.str s,0)),(9,(.sl no 1 lo co,168)),(10,(.int .i64 i,0)),(11,(.int .i64 c,0)),(12,(.int .i64 k,0)),(13,(.int .i64 d,0))] [(2,z4),(4,z4)]
section
variable (fi:List UInt8→Option (List UInt8 × Bool)) (fr:Int→Int→Int→List UInt8→Option Bool) (fp:List UInt8→Option (Int × Int × Bool))
noncomputable def enPs:Env:=enH [(106,tSB fi),(47,tvB fr),(57,tD3 fp)] [] []
noncomputable def ps1 (fu n:Nat)(st:St):Option PV:=loopF (enPs fi fr fp) hPs fu false fPs [1,1,1,1,0,1,0,1,1,1,0,1,0] 1 n st
noncomputable def ps3 (fu:Nat)(K:St→Option PV)(n:Nat)(st:St):Option PV:=loopP (enPs fi fr fp) hPs fu false fPs (fun st=>pnorm (hPs.loop.lookup 1) st K) [1,1,1,1,0,1,0,1,1,1,0,1,0,0,1,0,0,1,0,1,0] 3 n st
noncomputable def ps5 (fu:Nat)(K:St→Option PV)(n:Nat)(st:St):Option PV:=loopP (enPs fi fr fp) hPs fu false fPs (fun st=>pnorm (hPs.loop.lookup 3) st K) [1,1,1,1,0,1,0,1,1,1,0,1,0,0,1,0,0,1,0,1,0,0,1,0,0,1,0,0] 5 n st
def failV:Option PV:=some (.tuple [valE ⟨0,0,0,[]⟩,.bool false])
theorem psT_raw (fu:Nat)(t:List UInt8):prun (enPs fi fr fp) hPs fu false fPs [.str (39::t)] =
  ixB (39::t) 0 fun _=>(fi (39::t)).bind fun q=>bif !!q.2 then (fr 4 0 0 q.1).bind fun b=>bif !b then failV else some (.tuple [valE ⟨4,0,0,q.1⟩,.bool true]) else failV:=prunN_eq.trans (by kernel_rfl)
theorem psX_raw (fu:Nat)(t:List UInt8):prun (enPs fi fr fp) hPs fu false fPs [.str (88::t)] =
  ixB (88::t) 0 fun _=>ixB (88::t) 0 fun _=>bif decide ((1:Int)≤((((88:UInt8)::t).length:Nat):Int)) then (fi ((((88:UInt8)::t).take ((88:UInt8)::t).length).drop 1)).bind fun q=>bif !!q.2 then (bif (q.1.length:Int).tmod 2==1 then failV else ps1 fi fr fp fu fu (frPs1 q.1 (some true) 0 [] 0)) else failV else none:=prunN_eq.trans (by kernel_rfl)
theorem ps1_step (fu:Nat)(s:List UInt8)(no:Option Bool)(lo:Nat)(co:List PV)(i:Int)(K:St→Option PV) :
  stepF (enPs fi fr fp) hPs fu false fPs [1,1,1,1,0,1,0,1,1,1,0,1,0] (frPs1 s no lo co i) (fun st=>pnorm (hPs.loop.lookup 1) st K) =
  bif decide (i<(s.length:Int)) then ps3 fi fr fp fu K fu (frPs3 s no lo co i 0 i) else (pbytes co).bind fun r=>(fr 5 0 0 r).bind fun b=>bif !b then failV else some (.tuple [valE ⟨5,0,0,r⟩,.bool true]):=(stepF_eq (by kernel_rfl)).trans (by kernel_rfl)
theorem ps3_step (fu:Nat)(s:List UInt8)(no:Option Bool)(lo:Nat)(co:List PV)(i c k:Int)(K K3:St→Option PV) :
  stepP (enPs fi fr fp) hPs fu false fPs [1,1,1,1,0,1,0,1,1,1,0,1,0,0,1,0,0,1,0,1,0] (fun st=>pnorm (hPs.loop.lookup 1) st K) (frPs3 s no lo co i c k) (fun st=>pnorm (hPs.loop.lookup 3) st K3) =
  bif decide (k<IntKind.i64.wrap (i+2)) then ps5 fi fr fp fu K3 fu (frPs5 s no lo co i c k 0) else rmB lo 1 (K (frPs1 s (no.map (· && false)) (lo+1) (co++[.int .u8 (IntKind.u8.wrap c)]) (IntKind.i64.wrap (i+2)))):=(stepP_eq (by kernel_rfl)).trans (by kernel_rfl)
def ps5X (s:List UInt8)(no:Option Bool)(lo:Nat)(co:List PV)(i c k d:Int)(K3:St→Option PV):Option PV:=bif d==16 then failV else K3 (frPs3 s no lo co i (IntKind.i64.wrap (IntKind.i64.wrap (16 * c)+d)) (IntKind.i64.wrap (k+1)))
theorem ps5_step (fu:Nat)(s:List UInt8)(no:Option Bool)(lo:Nat)(co:List PV)(i c k d:Int)(K3 K5:St→Option PV) :
  stepP (enPs fi fr fp) hPs fu false fPs [1,1,1,1,0,1,0,1,1,1,0,1,0,0,1,0,0,1,0,1,0,0,1,0,0,1,0,0] (fun st=>pnorm (hPs.loop.lookup 3) st K3) (frPs5 s no lo co i c k d) (fun st=>pnorm (hPs.loop.lookup 5) st K5) =
  bif decide (d<16) then ixB hxD d fun a=>ixB s k fun b=>bif !((a.toNat:Int)==(b.toNat:Int)) then K5 (frPs5 s no lo co i c k (IntKind.i64.wrap (d+1))) else ps5X s no lo co i c k d K3 else ps5X s no lo co i c k d K3:=by kernel_rfl
end
theorem in_acc (acc:List UInt8)(v:UInt8):((some acc.isEmpty).map (· && false))=some (acc++[v]).isEmpty:=by
 show some (acc.isEmpty&&false)=_
 rw[Bool.and_false]
 congr 1
 cases acc<;>rfl
theorem in_loop (fu:Nat)(s:List UInt8)(hs:s.length≤100000){r u:List UInt8}(h:Dbl r u):∀ (i n:Nat) (acc:List UInt8),s.drop i=r→r.length<n→acc.length≤i →
  inL fu n (frIn s (some acc.isEmpty) acc.length (acc.map bytePV) (i:Int))=some (.tuple [.str (acc++u),.bool true]):=by
 induction h with
 |nil =>
  intro i n acc hd hn ha
  obtain⟨n,rfl⟩:∃ m,n=m+1:=⟨n-1,by simp only[List.length_nil] at hn;omega⟩
  have:=List.drop_eq_nil_iff.1 hd
  unfold inL
  rw[loopF_succ,in_step,cond_f (decide_eq_false (by omega)),pbytes_map,List.append_nil]
  rfl
 | @q r u _ ih =>
  intro i n acc hd hn ha
  obtain⟨n,rfl⟩:∃ m,n=m+1:=⟨n-1,by simp only[List.length_cons] at hn;omega⟩
  have hlen:=congrArg List.length hd
  rw[List.length_drop] at hlen
  simp only[List.length_cons] at hlen hn
  have hc:s[i]? = some 39:=by rw[← List.head?_drop,hd];rfl
  have hd2:s.drop (i+1)=39::r:=by rw[← List.drop_drop,hd];rfl
  have hc2:s[i+1]? = some 39:=by rw[← List.head?_drop,hd2];rfl
  have hd3:s.drop (i+2)=r:=by rw[show i+2=(i+1)+1 by omega,← List.drop_drop,hd2];rfl
  have ih:=ih (i+2) n (acc++[39]) hd3 (by omega) (by rw[List.length_append];simp only[List.length_cons,List.length_nil];omega)
  unfold inL at ih ⊢
  rw[loopF_succ,in_step,cond_t (decide_eq_true (by omega)),ixB_eq hc,rmB_eq (by omega),ixB_eq hc,cond_t (by rfl),wrapI_of (by omega) (by omega),show (i:Int)+1=((i+1:Nat):Int) by omega,cond_t (by rw[beq_eq_false_iff_ne.2 (by omega)];rfl),ixB_eq hc2,cond_f (by rfl),wrapI_of (by omega) (by omega),show ((i+1:Nat):Int)+1=((i+2:Nat):Int) by omega,in_acc acc 39]
  rw[List.length_append,List.map_append] at ih
  refine Eq.trans ?_ (ih.trans (by rw[List.append_assoc];rfl))
  rfl
 | @c c r u hne _ ih =>
  intro i n acc hd hn ha
  obtain⟨n,rfl⟩:∃ m,n=m+1:=⟨n-1,by simp only[List.length_cons] at hn;omega⟩
  have hlen:=congrArg List.length hd
  rw[List.length_drop] at hlen
  simp only[List.length_cons] at hlen hn
  have hc:s[i]? = some c:=by rw[← List.head?_drop,hd];rfl
  have hd2:s.drop (i+1)=r:=by rw[← List.drop_drop,hd];rfl
  have ih:=ih (i+1) n (acc++[c]) hd2 (by omega) (by rw[List.length_append];simp only[List.length_cons,List.length_nil];omega)
  unfold inL at ih ⊢
  rw[loopF_succ,in_step,cond_t (decide_eq_true (by omega)),ixB_eq hc,rmB_eq (by omega),ixB_eq hc,n39,decide_eq_false hne,cond_false,wrapI_of (by omega) (by omega),show (i:Int)+1=((i+1:Nat):Int) by omega,in_acc acc c]
  rw[List.length_append,List.map_append] at ih
  refine Eq.trans ?_ (ih.trans (by rw[List.append_assoc];rfl))
  rfl
theorem in_qt {r u:List UInt8}(h:Dbl r u)(hl:r.length≤10000):∃ fu,prun (enH [] [] []) hIn fu false fIn [.str (qt r)]=some (.tuple [.str u,.bool true]):=by
 refine⟨r.length+1,(in_raw _ (qt r)).trans ?_⟩
 rw[qt_len,cond_t (by rw[decide_eq_false (by omega)];rfl),show ((0:Int))=((0:Nat):Int) from rfl,ixB_eq (c:=39) (by rfl),cond_t (by rfl),wrapI_of (by omega) (by omega),show (((r.length+2:Nat):Int)-1)=((r.length+1:Nat):Int) by omega,
  ixB_eq (c:=39) (by unfold qt;rw[List.getElem?_cons_succ,List.getElem?_append_right (Nat.le_refl _),Nat.sub_self];rfl),cond_f (by rfl),cond_t (by simp only[Bool.and_eq_true,decide_eq_true_eq];omega),Int.toNat_natCast,cond_t (decide_eq_true (by omega))]
 have e:((qt r).take (r.length+1)).drop 1=r:=by
  unfold qt
  rw[List.take_succ_cons,List.drop_succ_cons,List.drop_zero,List.take_left]
 rw[e]
 exact in_loop _ r (by omega) h 0 (r.length+1) [] rfl (by omega) (Nat.le_refl _)
theorem hxI_at:∀ n:Fin 256,∀ d:Fin 16,hxN d.val=UInt8.ofNat n.val→hxI (UInt8.ofNat n.val)=(d.val:Int):=by decide +kernel
theorem hxI_no:∀ n:Fin 256,(∀ d:Fin 16,hxN d.val≠UInt8.ofNat n.val)→hxI (UInt8.ofNat n.val)=-1:=by decide +kernel
theorem hxI_eq {b:UInt8}{d:Nat}(hd:d<16)(h:hxN d=b):hxI b=(d:Int):=by
 have:=hxI_at ⟨b.toNat,b.toNat_lt⟩ ⟨d,hd⟩
 rw[UInt8.ofNat_toNat] at this
 exact this h
theorem hxI_none {b:UInt8}(h:∀ d,d<16→hxN d≠b):hxI b=-1:=by
 have:=hxI_no ⟨b.toNat,b.toNat_lt⟩
 rw[UInt8.ofNat_toNat] at this
 exact this fun d=>h d.val d.isLt
section
variable (fi:List UInt8→Option (List UInt8 × Bool)) (fr:Int→Int→Int→List UInt8→Option Bool) (fp:List UInt8→Option (Int × Int × Bool))
theorem ps5_loop (fu:Nat)(s:List UInt8)(no:Option Bool)(lo:Nat)(co:List PV)(i:Int){c:Int}(h0:0≤c)(h1:c≤1000){k:Nat}{b:UInt8}(hb:s[k]? = some b)(hk:k≤100000)(K3:St→Option PV) :
  ∀ (j d n:Nat),d+j=16→j<n→(∀ d',d'<d→hxN d'≠b)→ps5 fi fr fp fu K3 n (frPs5 s no lo co i c (k:Int) (d:Int))=bif decide (hxI b<0) then failV else K3 (frPs3 s no lo co i (16 * c+hxI b) ((k+1:Nat):Int))
 |j,d,0,_,h,_=>by omega
 |0,d,n+1,hd,hn,hno=>by
  have:d=16:=by omega
  subst this
  unfold ps5
  rw[loopP_succ,ps5_step,cond_f (decide_eq_false (by omega)),hxI_none hno]
  rfl
 |j+1,d,n+1,hd,hn,hno=>by
  have ih:=fun h=>ps5_loop fu s no lo co i h0 h1 hb hk K3 j (d+1) n (by omega) (by omega) h
  unfold ps5 at ih ⊢
  rw[loopP_succ,ps5_step,cond_t (decide_eq_true (by omega)),hxD_at (by omega),ixB_eq hb,n_eq]
  by_cases he:hxN d=b
  ·have hx:=hxI_eq (by omega) he
   rw[beq_iff_eq.2 he,Bool.not_true,cond_false]
   unfold ps5X
   rw[cond_f (beq_eq_false_iff_ne.2 (by omega)),hx,cond_f (decide_eq_false (by omega)),wrapI_of (x:=16 * c) (by omega) (by omega),wrapI_of (x:=16 * c+(d:Int)) (by omega) (by omega),wrapI_of (x:=(k:Int)+1) (by omega) (by omega)]
   rfl
  ·rw[beq_eq_false_iff_ne.2 he,Bool.not_false,cond_true,wrapI_of (by omega) (by omega),show (d:Int)+1=((d+1:Nat):Int) by omega]
   refine ih fun d' h=>?_
   by_cases hd':d'=d
   ·subst hd';exact he
   ·exact hno d' (by omega)
theorem ps5_start {fu:Nat}(hfu:17≤fu)(s:List UInt8)(no:Option Bool)(lo:Nat)(co:List PV)(i:Int){c:Int}(h0:0≤c)(h1:c≤1000){k:Nat}{b:UInt8}(hb:s[k]? = some b)(hk:k≤100000)(K3:St→Option PV) :
  ps5 fi fr fp fu K3 fu (frPs5 s no lo co i c (k:Int) 0)=bif decide (hxI b<0) then failV else K3 (frPs3 s no lo co i (16 * c+hxI b) ((k+1:Nat):Int)) :=
 ps5_loop fi fr fp fu s no lo co i h0 h1 hb hk K3 16 0 fu (by omega) (by omega) (fun d h=>by omega)
theorem u8_byte {a b:UInt8}(ha:¬ hxI a<0)(hb:¬ hxI b<0):PV.int .u8 (IntKind.u8.wrap (16 * (16 * 0+hxI a)+hxI b))=bytePV (UInt8.ofNat (16 * (hxI a).toNat+(hxI b).toNat)):=by
 have ga:=hxI_ge a
 have gb:=hxI_ge b
 have hlt:16 * (hxI a).toNat+(hxI b).toNat<256:=by omega
 unfold bytePV
 rw[UInt8.toNat_ofNat_of_lt' hlt]
 congr 1
 rw[show IntKind.u8.wrap (16 * (16 * 0+hxI a)+hxI b)=(16 * (16 * 0+hxI a)+hxI b)%256 from rfl]
 omega
theorem ps3_pair {fu:Nat}(hfu:17≤fu)(s:List UInt8)(no:Option Bool)(lo:Nat)(co:List PV)(hlo:lo≤100000){i:Nat}{a b:UInt8}(ha:s[i]? = some a)(hb:s[i+1]? = some b)(hi:i≤90000)(K:St→Option PV)(n:Nat) :
  ps3 fi fr fp fu K (n+3) (frPs3 s no lo co (i:Int) 0 (i:Int))=bif decide (hxI a<0)||decide (hxI b<0) then failV else K (frPs1 s (no.map (· && false)) (lo+1) (co++[bytePV (UInt8.ofNat (16 * (hxI a).toNat+(hxI b).toNat))]) ((i+2:Nat):Int)):=by
 have ga:=hxI_ge a
 have gb:=hxI_ge b
 have w:IntKind.i64.wrap ((i:Int)+2)=((i+2:Nat):Int):=by rw[wrapI_of (by omega) (by omega)];omega
 unfold ps3
 rw[loopP_succ,ps3_step,w,cond_t (decide_eq_true (by omega)),ps5_start fi fr fp hfu s no lo co (i:Int) (by omega) (by omega) ha (by omega)]
 by_cases h1:hxI a<0
 ·rw[decide_eq_true h1];rfl
 rw[decide_eq_false h1,cond_false,Bool.false_or,loopP_succ,ps3_step,w,cond_t (decide_eq_true (by omega)),ps5_start fi fr fp hfu s no lo co (i:Int) (by omega) (by omega) hb (by omega)]
 by_cases h2:hxI b<0
 ·rw[decide_eq_true h2];rfl
 rw[decide_eq_false h2,cond_false,cond_false,loopP_succ,ps3_step,w,cond_f (decide_eq_false (by omega)),rmB_eq (by omega)]
 rw[← u8_byte h1 h2]
end
section
variable (fi:List UInt8→Option (List UInt8 × Bool)) (fr:Int→Int→Int→List UInt8→Option Bool) (fp:List UInt8→Option (Int × Int × Bool))
def ps1E (acc:List UInt8)(o:Option (List UInt8)):Option PV:=match o with
 |none=>failV
 |some l=>(fr 5 0 0 (acc++l)).bind fun b=>bif !b then failV else some (.tuple [valE ⟨5,0,0,acc++l⟩,.bool true])
theorem ps1_loop {fu:Nat}(hfu:20≤fu)(s:List UInt8)(hs:s.length≤10000)(h2:s.length%2=0):∀ (k i n:Nat) (acc:List UInt8),2 * i+2 * k=s.length→k<n→acc.length=i →
  ps1 fi fr fp fu n (frPs1 s (some acc.isEmpty) acc.length (acc.map bytePV) ((2 * i:Nat):Int))=ps1E fr acc (unhV (s.drop (2 * i)))
 |k,i,0,_,_,h,_=>by omega
 |0,i,n+1,acc,hi,hn,ha=>by
  unfold ps1
  rw[loopF_succ,ps1_step,cond_f (decide_eq_false (by omega)),pbytes_map,List.drop_of_length_le (by omega)]
  simp only[unhV,ps1E,List.append_nil,Option.bind_some]
 |k+1,i,n+1,acc,hi,hn,ha=>by
  have hc:=List.getElem?_eq_getElem (l:=s) (i:=2 * i) (by omega)
  have hc2:=List.getElem?_eq_getElem (l:=s) (i:=2 * i+1) (by omega)
  rw[List.drop_eq_getElem_cons (show 2 * i<s.length by omega),List.drop_eq_getElem_cons (show 2 * i+1<s.length by omega)]
  generalize s[2 * i]'(by omega)=a at hc
  generalize s[2 * i+1]'(by omega)=b at hc2
  obtain⟨f3,rfl⟩:∃ m,fu=m+3:=⟨fu-3,by omega⟩
  unfold ps1
  rw[loopF_succ,ps1_step,cond_t (decide_eq_true (by omega)),ps3_pair fi fr fp (by omega) s _ _ _ (by omega) hc hc2 (by omega),unhV]
  by_cases hx:(decide (hxI a<0)||decide (hxI b<0))=true
  ·rw[hx];rfl
  rw[Bool.eq_false_iff.2 hx,cond_false,cond_false,in_acc acc (UInt8.ofNat (16 * (hxI a).toNat+(hxI b).toNat))]
  have ih:=ps1_loop hfu s hs h2 k (i+1) n (acc++[UInt8.ofNat (16 * (hxI a).toNat+(hxI b).toNat)]) (by omega) (by omega) (by rw[List.length_append,ha];rfl)
  unfold ps1 at ih
  rw[List.length_append,List.map_append,show 2 * (i+1)=2 * i+2 by omega] at ih
  refine Eq.trans (show _=_ from rfl) (ih.trans ?_)
  rw[show 2 * i+1+1=2 * i+2 by omega]
  cases unhV (s.drop (2 * i+2)) with
  |none=>rfl
  |some l=>simp only[Option.map_some,ps1E,List.append_assoc];rfl
end
def qAll:List UInt8→Option (List UInt8)
 |[]=>none
 |c::t=>if c=39 then (qsc t).bind fun r=>bif r.2.2.isEmpty&&decide (t.length≤5000) then some r.2.1 else none else none
theorem qAll_ok {s u:List UInt8}(h:qAll s=some u):∃ r,s=qt r∧Dbl r u∧r.length≤5000:=by
 rcases s with _|⟨c,t⟩
 ·cases h
 rw[qAll] at h
 obtain⟨hc,h⟩:=ite_inv h
 obtain⟨q,hq,h⟩:=Option.bind_eq_some_iff.1 h
 obtain⟨hb,h⟩:=bif_inv h
 injection h with h
 subst h hc
 simp only[Bool.and_eq_true,List.isEmpty_iff,decide_eq_true_eq] at hb
 obtain⟨h1,h2,-⟩:=qsc_ok _ t q.1 q.2.1 q.2.2 (Nat.le_refl _) hq
 rw[hb.1] at h2
 have h3:=congrArg List.length h2
 simp only[List.length_append,List.length_cons,List.length_nil] at h3
 exact⟨q.1,by rw[h2];rfl,h1,by omega⟩
def inD (s:List UInt8):Option (List UInt8×Bool):=(qAll s).map fun u=>(u,true)
theorem ok_inD:FOK NGs Ws 106 (tSB inD):=fok_tSB woks allOK_nil allH_nil (h:=hIn) Tryz.func106 rfl (by decide) fun s r h=>by
 obtain⟨u,hu,rfl⟩:=Option.map_eq_some_iff.1 h
 obtain⟨r,rfl,hd,hl⟩:=qAll_ok hu
 exact in_qt hd (by omega)
def rvD:List UInt8→Option (Val×Bool)
 |[]=>none
 |c::t=>if c=39 then (qAll (c::t)).map txtV else if c=88 then (qAll t).map bytV else none
theorem rt_of {a n c:Int}{s:List UInt8}(h:s.length≤1000000):rtD a n c s=some (rightB a n c s):=by unfold rtD;rw[cond_t (decide_eq_true h)]
theorem ok_rvD:FOK NGs Ws 55 (tSvb rvD):=fok_tSvb woks (allOK_cons ok_inD (allOK_cons ok_rrtD (allOK_cons ok_rparD allOK_nil))) allH_nil (h:=hPs) Tryz.func55 rfl (by decide) fun s r h=>by
 rcases s with _|⟨c,t⟩
 ·cases h
 rw[rvD] at h
 by_cases h39:c=39
 ·rw[if_pos h39] at h
  subst h39
  obtain⟨u,hu,rfl⟩:=Option.map_eq_some_iff.1 h
  obtain⟨r,hr,hd,hl⟩:=qAll_ok hu
  have hul:=dbl_len hd
  refine⟨0,(psT_raw inD rtD parD 0 t).trans ?_⟩
  have hi:inD (39::t)=some (u,true):=by unfold inD;rw[hu];rfl
  rw[show (0:Int)=((0:Nat):Int) from rfl,ixB_eq (c:=39) (by rfl),hi,Option.bind_some,cond_t (by rfl),rt_of (by show u.length≤_;omega),Option.bind_some]
  unfold txtV
  cases rightB 4 0 0 u<;>rfl
 ·rw[if_neg h39] at h
  obtain⟨h88,h⟩:=ite_inv h
  subst h88
  obtain⟨u,hu,rfl⟩:=Option.map_eq_some_iff.1 h
  obtain⟨r,hr,hd,hl⟩:=qAll_ok hu
  have hul:=dbl_len hd
  refine⟨u.length+20,(psX_raw inD rtD parD _ t).trans ?_⟩
  have hi:inD t=some (u,true):=by unfold inD;rw[hu];rfl
  rw[show ixB (88::t) 0=ixB (88::t) ((0:Nat):Int) from rfl,ixB_eq (c:=88) (by rfl),ixB_eq (c:=88) (by rfl),cond_t (decide_eq_true (by simp only[List.length_cons];omega)),List.take_length,List.drop_succ_cons,List.drop_zero,hi,Option.bind_some,cond_t (by rfl)]
  have e:(u.length:Int).tmod 2=((u.length%2:Nat):Int):=by rw[Int.tmod_eq_emod_of_nonneg (by omega)];omega
  rw[e]
  unfold bytV
  by_cases h2:u.length%2=0
  ·rw[h2,cond_f (by rfl)]
   refine (ps1_loop inD rtD parD (fu:=u.length+20) (by omega) u (by omega) h2 (u.length/2) 0 (u.length+20) [] (by omega) (by omega) rfl).trans ?_
   rw[Nat.mul_zero,List.drop_zero]
   cases hv:unhV u with
   |none=>rfl
   |some b =>
    have hbl:=(unh_hex _ u b (Nat.le_refl _) hv).2.2
    unfold ps1E
    simp only[List.nil_append]
    rw[rt_of (by omega),Option.bind_some]
    cases rightB 5 0 0 b<;>rfl
  ·have h3:u.length%2=1:=by omega
   rw[h3,cond_t (by rfl),unh_odd _ u (Nat.le_refl _) h3]
   rfl
def tIn (f:Int→Int→Int→Option Bool):PFn:=⟨fun xs k=>match xs with|[.int .u8 c,.int .u8 a,.int .u8 z]=>(f c a z).bind fun b=>k (.bool b)|_=>none,false⟩
theorem tIn_nat (f:Int→Int→Int→Option Bool):(tIn f).nat:=by
 intro R xs k
 simp only[tIn]
 split
 ·rw[Option.bind_assoc];rfl
 ·rfl
theorem in17_raw (fu:Nat)(c a z:Int):prun (enH [] [] []) hh0 fu false Tryz.f56 [.int .u8 c,.int .u8 a,.int .u8 z]=some (.bool (bif decide (a≤c) then decide (c≤z) else false)):=by kernel_rfl
noncomputable def fL2:Func:=Tryz.f24
def hL2:Hints:=⟨[],[(2,⟨[(0,false),(5,true),(6,false),(8,false),(9,false)],[9]⟩),(6,⟨[(0,false),(5,true),(6,false),(8,false),(9,false)],[9]⟩),(4,⟨[(0,false),(5,true),(6,false),(8,false),(9,false)],[9]⟩),(10,⟨[(0,false),(5,true),(6,false),(8,false),(9,false),(15,false),(201,false),(202,false),(203,false)],[9]⟩),(8,⟨[(0,false),(5,true),(6,false),(8,false),(9,false)],[9]⟩),(12,⟨[(0,false),(5,true),(6,false),(8,false),(9,false)],[9]⟩),(0,⟨[(0,false),(5,true),(6,false)],[]⟩)]⟩
structure TA where
 no:Option Bool
 lo:Nat
 co:List PV
def TA.put (A:TA)(t:TR):TA:=⟨A.no.map (· && false),A.lo+1,A.co++t.cells⟩
def TA.sl (A:TA):PV:=.sl A.no 7 A.lo A.co
def frL (s:List UInt8)(A:TA)(i:Int):St:=frame 312 [(0,(.str s,0)),(5,(A.sl,319)),(6,(.int .i64 i,0))] []
def tzB (a:Int):List TV:=[(.int .i64 0,0),(.int .i64 a,0),(.str [],0),(.int .i64 0,0),(.int .i64 0,0),(.int .i64 0,0),(.str [],0)]
def frI (s:List UInt8)(A:TA)(i a:Int):St:=frame 312 [(0,(.str s,0)),(5,(A.sl,319)),(6,(.int .i64 i,0)),(8,(.int .i64 a,0)),(9,(.ptr 9 0,0))] [(9,tzB a)]
def frKy (s:List UInt8)(A:TA)(i a:Int)(kn:Bool)(nl:Option Bool)(n:Nat)(c:List PV)(j:Int):St :=
 frame 312 [(0,(.str s,0)),(5,(A.sl,319)),(6,(.int .i64 i,0)),(8,(.int .i64 a,0)),(9,(.ptr 9 0,0)),(15,(.bool kn,0)),(201,(.sl nl 1 n c,0)),(202,(.int .i64 n,0)),(203,(.int .i64 j,0))] [(9,tzB a)]
structure FL2 where
 fin:Int→Int→Int→Option Bool
 fp:List UInt8→Option (Val×Bool)
 fd:List UInt8→Option (Int×Int×Bool)
 fk:Option (Option Bool×Nat×List PV)
def slS {R:Type}(s:List UInt8)(a j:Int)(k:List UInt8→Option R):Option R:=bif decide (0≤j)&&decide (j≤(s.length:Int)) then bif decide (0≤a)&&decide (a≤(j.toNat:Int)) then k ((s.take j.toNat).drop a.toNat) else none else none
def l2F (a:Int):Option PV:=some (.tuple [.sl (some true) 7 0 [],.int .i64 a,.bool false])
section
variable (F:FL2)
noncomputable def enL2:Env:=enH [(55,tSvb F.fp),(56,tIn F.fin),(57,tD3 F.fd),(58,tWs0 F.fk)] [] []
noncomputable def l0 (fu n:Nat)(st:St):Option PV:=loopF (enL2 F) hL2 fu false fL2 [1,1,1,1,0,0] 0 n st
noncomputable def lI (fu:Nat)(p:List Nat)(b:Nat)(K:St→Option PV)(n:Nat)(st:St):Option PV:=loopP (enL2 F) hL2 fu false fL2 (fun st=>pnorm (hL2.loop.lookup 0) st K) p b n st
abbrev p2:List Nat:=[1,1,1,1,0,0,0,1,0,1,1,1,1,0,1,0,1,1,0,0]
abbrev p4:List Nat:=[1,1,1,1,0,0,0,1,0,1,1,1,1,0,1,1,1,0,0,0]
abbrev p6:List Nat:=[1,1,1,1,0,0,0,1,0,1,1,1,1,0,1,1,1,0,1,0,1,0,1,0]
abbrev p8:List Nat:=[1,1,1,1,0,0,0,1,0,1,1,1,1,0,1,1,1,1,1,0,0,0]
abbrev p10:List Nat:=[1,1,1,1,0,0,0,1,0,1,1,1,1,0,1,1,1,1,1,0,1,1,0,1,0]
abbrev p12:List Nat:=[1,1,1,1,0,0,0,1,0,1,1,1,1,0,1,1,1,1,1,1,1,0,0,0]
variable (fu:Nat) (s:List UInt8) (A:TA) (i a:Int) (K K2:St→Option PV)
def finT (t:TR)(i:Int):Option PV:=roomT A.lo 1 (K (frL s (A.put t) i))
def numE (i:Int):Option PV:=slS s a i fun r=>(F.fd r).bind fun p=>bif !p.2.2 then l2F a else bif decide (0<p.2.1) then finT s A K ⟨2,a,[],3,p.1,p.2.1,[]⟩ i else finT s A K ⟨2,a,[],2,p.1,0,[]⟩ i
def strE (i:Int):Option PV:=bif decide ((s.length:Int)≤i) then l2F a else slS s a (IntKind.i64.wrap (i+1)) fun r=>(F.fp r).bind fun q=>bif !q.2 then l2F a else finT s A K ⟨2,a,[],q.1.kind,q.1.n,q.1.scale,q.1.s⟩ (IntKind.i64.wrap (i+1))
noncomputable def digE:Option PV:=bif decide (IntKind.i64.wrap (i+1)<(s.length:Int)) then ixB s i fun v=>bif (v.toNat:Int)==46 then ixB s (IntKind.i64.wrap (i+1)) fun w=>(F.fin (w.toNat:Int) 48 57).bind fun b=>bif b then lI F fu p6 6 K fu (frI s A (IntKind.i64.wrap (i+1)) a) else numE F s A a K i else numE F s A a K i else numE F s A a K i
def keyE (kn:Bool):Option PV:=bif !kn then l2F a else slS s a i fun r=>finT s A K ⟨1,a,r,0,0,0,[]⟩ i
def namE:Option PV:=bif decide (24<IntKind.i64.wrap (i-a)) then l2F a else slS s a i fun r=>finT s A K ⟨0,a,r,0,0,0,[]⟩ i
def sigE (i:Int):Option PV:=slS s a i fun r=>finT s A K ⟨3,a,r,0,0,0,[]⟩ i
def orI {S:Type}(v:Int)(x y:S):List Int→S
 |[]=>y
 |[c]=>bif v==c then x else y
 |c::cs=>bif v==c then (bif v==c then x else y) else orI v x y cs
def sgE (v n:Int):Option PV :=
 let ten:=orI v (sigE s A a K i) (l2F a) [40,41,44,46,43,45,42,47,37,61]
 let two:=bif (bif n==61 then true else bif v==60 then n==62 else false) then sigE s A a K (IntKind.i64.wrap (i+1)) else sigE s A a K i
 bif v==60 then (bif v==60 then two else ten) else bif v==62 then two else ten
theorem lx2_raw:prun (enL2 F) hL2 fu false fL2 [.str s]=bif decide ((2000:Int)<(s.length:Int)) then l2F 2000 else l0 F fu fu (frL s ⟨some true,0,[]⟩ 0):=prunN_eq.trans (by kernel_rfl)
theorem st6:stepP (enL2 F) hL2 fu false fL2 p6 (fun st=>pnorm (hL2.loop.lookup 0) st K) (frI s A i a) (fun st=>pnorm (hL2.loop.lookup 6) st K2) =
  bif decide (i<(s.length:Int)) then ixB s i fun v=>(F.fin (v.toNat:Int) 48 57).bind fun b=>bif b then K2 (frI s A (IntKind.i64.wrap (i+1)) a) else numE F s A a K i else numE F s A a K i:=by kernel_rfl
theorem st8:stepP (enL2 F) hL2 fu false fL2 p8 (fun st=>pnorm (hL2.loop.lookup 0) st K) (frI s A i a) (fun st=>pnorm (hL2.loop.lookup 8) st K2) =
  (let X:=F.fk.bind fun r=>lI F fu p10 10 K fu (frKy s A i a false r.1 r.2.1 r.2.2 0)
  bif decide (i<(s.length:Int)) then ixB s i fun v=>(F.fin (v.toNat:Int) 65 90).bind fun b=>bif b then K2 (frI s A (IntKind.i64.wrap (i+1)) a) else X else X):=(stepP_eq (by kernel_rfl)).trans (by kernel_rfl)
theorem st10 (kn:Bool)(nl:Option Bool)(n:Nat)(c:List PV)(j:Int):stepP (enL2 F) hL2 fu false fL2 p10 (fun st=>pnorm (hL2.loop.lookup 0) st K) (frKy s A i a kn nl n c j) (fun st=>pnorm (hL2.loop.lookup 10) st K2) =
  bif decide (j<(n:Int)) then chk (decide (0≤j)&&decide (j<(n:Int))) (((c.drop (j.toNat * 1)).take 1).head?.bind fun x=>x.asStr.bind fun u=>bif !kn then slS s a i fun r=>K2 (frKy s A i a (u==r) nl n c (IntKind.i64.wrap (j+1))) else K2 (frKy s A i a true nl n c (IntKind.i64.wrap (j+1)))) else keyE s A i a K kn:=by kernel_rfl
theorem st12:stepP (enL2 F) hL2 fu false fL2 p12 (fun st=>pnorm (hL2.loop.lookup 0) st K) (frI s A i a) (fun st=>pnorm (hL2.loop.lookup 12) st K2) =
  (let X:=namE s A i a K
  let Y:=K2 (frI s A (IntKind.i64.wrap (i+1)) a)
  bif decide (i<(s.length:Int)) then ixB s i fun v=>(F.fin (v.toNat:Int) 97 122).bind fun b=>bif !b then ixB s i fun w=>(F.fin (w.toNat:Int) 48 57).bind fun d=>bif !d then ixB s i fun z=>bif (z.toNat:Int)==95 then Y else X else Y else Y else X):=by kernel_rfl
theorem st4:stepP (enL2 F) hL2 fu false fL2 p4 (fun st=>pnorm (hL2.loop.lookup 0) st K) (frI s A i a) (fun st=>pnorm (hL2.loop.lookup 4) st K2) =
  bif decide (i<(s.length:Int)) then ixB s i fun v=>(F.fin (v.toNat:Int) 48 57).bind fun b=>bif b then K2 (frI s A (IntKind.i64.wrap (i+1)) a) else digE F fu s A i a K else digE F fu s A i a K:=(stepP_eq (by kernel_rfl)).trans (by kernel_rfl)
theorem st2:stepP (enL2 F) hL2 fu false fL2 p2 (fun st=>pnorm (hL2.loop.lookup 0) st K) (frI s A i a) (fun st=>pnorm (hL2.loop.lookup 2) st K2) =
  (let X:=strE F s A a K i
  let Y:=ixB s i fun u=>bif (u.toNat:Int)==39 then K2 (frI s A (IntKind.i64.wrap (IntKind.i64.wrap (i+1)+1)) a) else K2 (frI s A (IntKind.i64.wrap (i+1)) a)
  bif decide (i<(s.length:Int)) then ixB s i fun v=>bif (bif !((v.toNat:Int) != 39) then decide (IntKind.i64.wrap (i+1)<(s.length:Int)) else false) then ixB s (IntKind.i64.wrap (i+1)) fun w=>bif (w.toNat:Int)==39 then Y else X
   else bif (bif !((v.toNat:Int) != 39) then decide (IntKind.i64.wrap (i+1)<(s.length:Int)) else false) then none else bif (bif (v.toNat:Int) != 39 then true else bif decide (IntKind.i64.wrap (i+1)<(s.length:Int)) then false else false) then Y else X
  else X):=by kernel_rfl
end
end Go.Proofs.YtkpfigikffphdaaGreatDoor
end
section
namespace Go.Proofs.YtkpfigikffphdaaGreatDoor
open Go.RowKit
def subCt:List Nat→Code→Code
 |0::p,.seq a _=>subCt p a
 |_::p,.seq _ b=>subCt p b
 |0::p,.cond _ a _=>subCt p a
 |_::p,.cond _ _ b=>subCt p b
 |_::p,.block _ a=>subCt p a
 |_::p,.loop a=>subCt p a
 |_,c=>c
def noRange:Code→Bool
 | .seq a b=>noRange a&&noRange b
 | .cond _ a b=>noRange a&&noRange b
 | .block _ a=>noRange a
 | .loop a=>noRange a
 | .rangeFunc _ _ _ _=>false
 |_=>true
section
variable {R:Type}
def LeK (k k':St→Option R):Prop:=∀ st q,k st=some q→k' st=some q
def LeX (kx kx':List (Nat×(St→Option R))):Prop:=∀ id f,kx.lookup id=some f→∃ f',kx'.lookup id=some f'∧LeK f f'
theorem LeK.rfl {k:St→Option R}:LeK k k:=fun _ _ h=>h
theorem LeX.rfl {kx:List (Nat×(St→Option R))}:LeX kx kx:=fun _ f h=>⟨f,h,LeK.rfl⟩
theorem LeX.cons {id:Nat}{f f':St→Option R}{kx kx':List (Nat×(St→Option R))}(hf:LeK f f')(h:LeX kx kx'):LeX ((id,f)::kx) ((id,f')::kx'):=fun i g hg=>by
 simp only[List.lookup_cons] at hg ⊢
 split at hg
 ·injection hg with hg
  subst hg
  exact⟨f',by rfl,hf⟩
 ·exact h i g hg
theorem bind_le {α:Type}{x:Option α}{k k':α→Option R}(h:∀ a q,k a=some q→k' a=some q){r:R}(hr:x.bind k=some r):x.bind k'=some r:=by
 obtain⟨a,ha,hk⟩:=Option.bind_eq_some_iff.1 hr
 rw[ha]
 exact h a r hk
theorem pregion_le {en:Env}(hE:en.nat){ops:Array Oper}{draw:Bool}{st:St}{k k':St→Option R}(h:LeK k k'){r:R}(hr:pregion en ops draw st k=some r):pregion en ops draw st k'=some r:=by
 have e:∀ k:St→Option R,pregion en ops draw st k=(pregion en ops draw st some).bind k:=fun k=>pregion_nat (k0:=some) hE
 rw[e] at hr ⊢
 exact bind_le h hr
theorem pnorm_le {kp:Option Keep}{st:St}{k k':St→Option R}(h:LeK k k'){r:R}(hr:pnorm kp st k=some r):pnorm kp st k'=some r:=by
 have e:∀ k:St→Option R,pnorm kp st k=(pnorm kp st some).bind k:=fun k=>pnorm_nat (k0:=some)
 rw[e] at hr ⊢
 exact bind_le h hr
theorem pfrz_le {l:Option (List (Nat×Bool))}{st:St}{k k':St→Option R}(h:LeK k k'){r:R}(hr:pfrz l st k=some r):pfrz l st k'=some r:=by
 have e:∀ k:St→Option R,pfrz l st k=(pfrz l st some).bind k:=fun k=>pfrz_nat (k0:=some)
 rw[e] at hr ⊢
 exact bind_le h hr
variable (e:Env) (h:Hints) (fu:Nat) (kr:St→Option R) (nm:List Nat→Nat→St→Option R)
theorem pcodeN_le (hE:e.nat):∀ (c:Code) (acc:List Nat) (cur:Nat) (st:St) (kn kn':St→Option R) (kx kx':List (Nat×(St→Option R))) (r:R),noRange c=true→LeK kn kn'→LeX kx kx' →
  pcodeN e h fu kr nm c acc cur st kn kx=some r→pcodeN e h fu kr nm c acc cur st kn' kx'=some r
 | .skip,acc,cur,st,kn,kn',kx,kx',r,_,h1,_,hr=>h1 _ _ hr
 | .region id ops draw,acc,cur,st,kn,kn',kx,kx',r,_,h1,_,hr=>by
  simp only[pcodeN] at hr ⊢
  exact pfrz_le (fun st' q hq=>pregion_le hE h1 hq) hr
 | .seq a b,acc,cur,st,kn,kn',kx,kx',r,hn,h1,h2,hr=>by
  simp only[noRange,Bool.and_eq_true] at hn
  simp only[pcodeN] at hr ⊢
  exact pcodeN_le hE a _ _ _ _ _ _ _ _ hn.1 (fun st' q hq=>pcodeN_le hE b _ _ _ _ _ _ _ _ hn.2 h1 h2 hq) h2 hr
 | .cond c a b,acc,cur,st,kn,kn',kx,kx',r,hn,h1,h2,hr=>by
  simp only[noRange,Bool.and_eq_true] at hn
  simp only[pcodeN] at hr ⊢
  split
  ·rename_i t ht
   rw[ht] at hr
   cases t with
   |true=>exact pcodeN_le hE a _ _ _ _ _ _ _ _ hn.1 h1 h2 hr
   |false=>exact pcodeN_le hE b _ _ _ _ _ _ _ _ hn.2 h1 h2 hr
  ·rename_i hno
   split at hr
   ·rename_i t ht
    exact absurd ht (hno t)
   ·cases hr
 | .block id a,acc,cur,st,kn,kn',kx,kx',r,hn,h1,h2,hr=>by
  simp only[noRange] at hn
  simp only[pcodeN] at hr ⊢
  exact pcodeN_le hE a _ _ _ _ _ _ _ _ hn (fun st' q hq=>pnorm_le h1 hq) (LeX.cons (fun st' q hq=>pnorm_le h1 hq) h2) hr
 | .loop a,acc,cur,st,kn,kn',kx,kx',r,hn,h1,h2,hr=>hr
 | .exit id,acc,cur,st,kn,kn',kx,kx',r,hn,h1,h2,hr=>by
  simp only[pcodeN] at hr ⊢
  cases hl:kx.lookup id with
  |none=>rw[hl] at hr;cases hr
  |some f =>
   rw[hl] at hr
   obtain⟨f',h3,h4⟩:=h2 id f hl
   rw[h3]
   exact h4 _ _ hr
 | .ret,acc,cur,st,kn,kn',kx,kx',r,hn,h1,h2,hr=>hr
 | .label _,acc,cur,st,kn,kn',kx,kx',r,hn,h1,h2,hr=>h1 _ _ hr
 | .rangeFunc _ _ _ _,_,_,_,_,_,_,_,_,hn,_,_,_=>by cases hn
 | .scope _,_,_,_,_,_,_,_,_,_,_,_,hr=>by cases hr
 | .goto _,_,_,_,_,_,_,_,_,_,_,_,hr=>by cases hr
 | .refuse _,_,_,_,_,_,_,_,_,_,_,_,hr=>by cases hr
def pcodeC (KM:St→Option R):List Nat→Code→List Nat→Nat→St→(St→Option R)→List (Nat×(St→Option R))→Option R
 |[],_,_,_,st,_,_=>KM st
 |0::p,.seq a b,acc,cur,st,kn,kx=>pcodeC KM p a (0::acc) cur st (fun st'=>pcodeN e h fu kr nm b (1::acc) cur st' kn kx) kx
 |(_+1)::p,.seq a b,acc,cur,st,kn,kx=>pcodeN e h fu kr nm a (0::acc) cur st (fun st'=>pcodeC KM p b (1::acc) cur st' kn kx) kx
 |0::p,.cond c a b,acc,cur,st,kn,kx =>
  match (ev e st 0 c).1 with
  | .bool t=>bif t then pcodeC KM p a (0::acc) cur st kn kx else pcodeN e h fu kr nm b (1::acc) cur st kn kx
  |_=>none
 |(_+1)::p,.cond c a b,acc,cur,st,kn,kx =>
  match (ev e st 0 c).1 with
  | .bool t=>bif t then pcodeN e h fu kr nm a (0::acc) cur st kn kx else pcodeC KM p b (1::acc) cur st kn kx
  |_=>none
 |_::p,.block id a,acc,_,st,kn,kx=>pcodeC KM p a (0::acc) id st (fun st'=>pnorm (h.block.lookup id) st' kn) ((id,fun st'=>pnorm (h.block.lookup id) st' kn)::kx)
 |_::_,c,acc,cur,st,kn,kx=>pcodeN e h fu kr nm c acc cur st kn kx
def restC:List Nat→Code→List Nat→Nat→(St→Option R)→List (Nat×(St→Option R))→St→Option R
 |[],c,acc,cur,kn,kx=>fun st=>pcodeN e h fu kr nm c acc cur st kn kx
 |0::p,.seq a b,acc,cur,kn,kx=>restC p a (0::acc) cur (fun st'=>pcodeN e h fu kr nm b (1::acc) cur st' kn kx) kx
 |(_+1)::p,.seq _ b,acc,cur,kn,kx=>restC p b (1::acc) cur kn kx
 |0::p,.cond _ a _,acc,cur,kn,kx=>restC p a (0::acc) cur kn kx
 |(_+1)::p,.cond _ _ b,acc,cur,kn,kx=>restC p b (1::acc) cur kn kx
 |_::p,.block id a,acc,_,kn,kx=>restC p a (0::acc) id (fun st'=>pnorm (h.block.lookup id) st' kn) ((id,fun st'=>pnorm (h.block.lookup id) st' kn)::kx)
 |_,_,_,_,_,_=>fun _=>none
theorem pcodeC_le (hE:e.nat){KM:St→Option R}:∀ (p:List Nat) (c:Code) (acc:List Nat) (cur:Nat) (st:St) (kn:St→Option R) (kx:List (Nat×(St→Option R))) (r:R),noRange c=true →
  LeK KM (restC e h fu kr nm p c acc cur kn kx)→pcodeC e h fu kr nm KM p c acc cur st kn kx=some r→pcodeN e h fu kr nm c acc cur st kn kx=some r
 |[],c,acc,cur,st,kn,kx,r,hn,hM,hr=>hM _ _ hr
 |0::p,.seq a b,acc,cur,st,kn,kx,r,hn,hM,hr=>by
  simp only[noRange,Bool.and_eq_true] at hn
  simp only[pcodeC,pcodeN] at hr ⊢
  exact pcodeC_le hE p a _ _ _ _ _ _ hn.1 hM hr
 |(m+1)::p,.seq a b,acc,cur,st,kn,kx,r,hn,hM,hr=>by
  simp only[noRange,Bool.and_eq_true] at hn
  simp only[pcodeC,pcodeN] at hr ⊢
  exact pcodeN_le e h fu kr nm hE a _ _ _ _ _ _ _ _ hn.1 (fun st' q hq=>pcodeC_le hE p b _ _ _ _ _ _ hn.2 hM hq) LeX.rfl hr
 |0::p,.cond c a b,acc,cur,st,kn,kx,r,hn,hM,hr=>by
  simp only[noRange,Bool.and_eq_true] at hn
  simp only[pcodeC,pcodeN] at hr ⊢
  split
  ·rename_i t ht
   rw[ht] at hr
   cases t with
   |true=>exact pcodeC_le hE p a _ _ _ _ _ _ hn.1 hM hr
   |false=>exact hr
  ·rename_i hno
   split at hr
   ·rename_i t ht
    exact absurd ht (hno t)
   ·cases hr
 |(m+1)::p,.cond c a b,acc,cur,st,kn,kx,r,hn,hM,hr=>by
  simp only[noRange,Bool.and_eq_true] at hn
  simp only[pcodeC,pcodeN] at hr ⊢
  split
  ·rename_i t ht
   rw[ht] at hr
   cases t with
   |true=>exact hr
   |false=>exact pcodeC_le hE p b _ _ _ _ _ _ hn.2 hM hr
  ·rename_i hno
   split at hr
   ·rename_i t ht
    exact absurd ht (hno t)
   ·cases hr
 |m::p,.block id a,acc,cur,st,kn,kx,r,hn,hM,hr=>by
  simp only[noRange] at hn
  cases m<;>exact pcodeC_le hE p a _ _ _ _ _ _ hn hM hr
 |m::p,.skip,acc,cur,st,kn,kx,r,hn,hM,hr=>by cases m<;>exact hr
 |m::p,.region _ _ _,acc,cur,st,kn,kx,r,hn,hM,hr=>by cases m<;>exact hr
 |m::p,.loop _,acc,cur,st,kn,kx,r,hn,hM,hr=>by cases m<;>exact hr
 |m::p,.exit _,acc,cur,st,kn,kx,r,hn,hM,hr=>by cases m<;>exact hr
 |m::p,.ret,acc,cur,st,kn,kx,r,hn,hM,hr=>by cases m<;>exact hr
 |m::p,.label _,acc,cur,st,kn,kx,r,hn,hM,hr=>by cases m<;>exact hr
 |m::p,.rangeFunc _ _ _ _,acc,cur,st,kn,kx,r,hn,hM,hr=>by cases m<;>exact hr
 |m::p,.scope _,acc,cur,st,kn,kx,r,hn,hM,hr=>by cases m<;>exact hr
 |m::p,.goto _,acc,cur,st,kn,kx,r,hn,hM,hr=>by cases m<;>exact hr
 |m::p,.refuse _,acc,cur,st,kn,kx,r,hn,hM,hr=>by cases m<;>exact hr
variable (fn:Func) (path:List Nat) (cur:Nat) (kx:List (Nat × (St→Option R)))
def kxOf:List (Nat×(St→Option R)):=kx.map fun p=>(p.1,fun st=>pnorm (h.block.lookup p.1) st p.2)
def stepB (st:St)(k:St→Option R):Option R:=pcodeN e h fu kr nm (subCt (path++[0]) (fn.body.getD .skip)) (path++[0]).reverse cur st k (kxOf h kx)
def stepC (p:List Nat)(KM:St→Option R)(st:St)(k:St→Option R):Option R:=pcodeC e h fu kr nm KM p (subCt (path++[0]) (fn.body.getD .skip)) (path++[0]).reverse cur st k (kxOf h kx)
def restB (p:List Nat)(k:St→Option R):St→Option R:=restC e h fu kr nm p (subCt (path++[0]) (fn.body.getD .skip)) (path++[0]).reverse cur k (kxOf h kx)
theorem stepB_cut (hE:e.nat){p:List Nat}{KM k:St→Option R}{st:St}{r:R}(hn:noRange (subCt (path++[0]) (fn.body.getD .skip))=true)(hM:LeK KM (restB e h fu kr nm fn path cur kx p k))
  (hr:stepC e h fu kr nm fn path cur kx p KM st k=some r):stepB e h fu kr nm fn path cur kx st k=some r:=pcodeC_le e h fu kr nm hE p _ _ _ _ _ _ _ hn hM hr
end
def nmP (e:Env)(h:Hints)(fu:Nat)(fn:Func)(k:St→Option PV):List Nat→Nat→St→Option PV:=fun p cur st=>loopP e h fu false fn k p cur fu st
def tailPn (e:Env)(h:Hints)(fu:Nat)(fn:Func)(p:List Nat)(cur:Nat)(kx:List (Nat×(St→Option PV)))(st:St):Option PV :=
 pcodeN e h fu (pfin e false fn) (fun p cur st=>loopF e h fu false fn p cur fu st) (subCt p (fn.body.getD .skip)) p.reverse cur st (pfin e false fn) kx
def rdK {R:Type}(n m:Nat)(ts bs:List Nat)(G:List TV→List (Option (List TV))→Option R)(st:St):Option R :=
 match st.out with
 | .nil=>bif Nat.beq st.ρ.length n&&Nat.beq st.bx.length m then G (ts.map fun t=>st.ρ.getD t (.undef,0)) (bs.map fun b=>st.bx.getD b none) else none
 |_=>none
def frameG (n m:Nat)(l:List (Nat×TV))(b:List (Nat×Option (List TV)))(g:Nat→TV)(gb:Nat→Option (List TV)):St :=
 ⟨(List.range n).map fun t=>(l.lookup t).getD (g t),(List.range m).map fun t=>(b.lookup t).getD (gb t),.nil⟩
theorem lookup_zip {α:Type}(f:Nat→α):∀ (ts:List Nat) (t:Nat),(ts.zip (ts.map f)).lookup t=none∨(ts.zip (ts.map f)).lookup t=some (f t)
 |[],t=>Or.inl rfl
 |a::ts,t=>by
  simp only[List.map_cons,List.zip_cons_cons,List.lookup_cons]
  split
  ·rename_i h
   rw[eq_of_beq h]
   exact Or.inr rfl
  ·exact lookup_zip f ts t
theorem lookup_getD {α:Type}(f:Nat→α)(ts:List Nat)(t:Nat):((ts.zip (ts.map f)).lookup t).getD (f t)=f t:=by
 rcases lookup_zip f ts t with h|h<;>rw[h]<;>rfl
theorem list_getD {α:Type}(l:List α)(d:α):(List.range l.length).map (fun t=>l.getD t d)=l:=by
 apply List.ext_getElem?
 intro i
 rw[List.getElem?_map]
 by_cases h:i<l.length
 ·rw[List.getElem?_range h,List.getElem?_eq_getElem h]
  simp[List.getD,List.getElem?_eq_getElem h]
 ·rw[List.getElem?_eq_none (by simpa using h),List.getElem?_eq_none (by omega)]
  rfl
theorem rdK_inv {R:Type}{n m:Nat}{ts bs:List Nat}{G:List TV→List (Option (List TV))→Option R}{st:St}{q:R}(h:rdK n m ts bs G st=some q) :
  ∃ vs ws g gb,G vs ws=some q∧st=frameG n m (ts.zip vs) (bs.zip ws) g gb:=by
 unfold rdK at h
 split at h
 ·rename_i ho
  refine⟨_,_,fun t=>st.ρ.getD t (.undef,0),fun t=>st.bx.getD t none,(bif_inv h).2,?_⟩
  obtain⟨h1,-⟩:=bif_inv h
  rw[Bool.and_eq_true] at h1
  have h2:=Nat.eq_of_beq_eq_true h1.1
  have h3:=Nat.eq_of_beq_eq_true h1.2
  obtain⟨ρ,bx,o⟩:=st
  dsimp only at ho h2 h3 ⊢
  subst ho
  unfold frameG
  congr 1
  ·rw[← h2]
   conv=>lhs;rw[← list_getD ρ (.undef,0)]
   apply List.map_congr_left
   intro t _
   exact (lookup_getD (fun t=>ρ.getD t (.undef,0)) ts t).symm
  ·rw[← h3]
   conv=>lhs;rw[← list_getD bx none]
   apply List.map_congr_left
   intro t _
   exact (lookup_getD (fun t=>bx.getD t none) bs t).symm
 ·cases h
end Go.Proofs.YtkpfigikffphdaaGreatDoor
end
section
set_option maxRecDepth 100000
namespace Go.Proofs.YtkpfigikffphdaaGreatDoor
open Go.RowKit
abbrev p0:List Nat:=[1,1,1,1,0,0]
abbrev pSg:List Nat:=[1,0,1,1,1,1,0,1,1,1,1,1,1,1,1]
section
variable (F:FL2) (fu:Nat) (s:List UInt8) (A:TA) (i a:Int) (K:St→Option PV)
noncomputable def l2Tail:St→Option PV:=tailPn (enL2 F) hL2 fu fL2 [1,1,1,1,1] 0 []
noncomputable def strB (nm:List Nat→Nat→St→Option PV)(v:Int):Option PV:=bif v==88 then nm p2 2 (frI s A (IntKind.i64.wrap (IntKind.i64.wrap (i+1)+1)) i) else nm p2 2 (frI s A (IntKind.i64.wrap (i+1)) i)
def sigB (v:Int):Option PV:=bif decide (IntKind.i64.wrap (i+1)<(s.length:Int)) then ixB s (IntKind.i64.wrap (i+1)) fun w=>sgE s A (IntKind.i64.wrap (i+1)) a K v (w.toNat:Int) else sgE s A (IntKind.i64.wrap (i+1)) a K v 0
noncomputable def resB (nm:List Nat→Nat→St→Option PV)(Y:Int→Option PV)(v:Int):Option PV:=(F.fin v 48 57).bind fun b=>bif b then nm p4 4 (frI s A i i) else (F.fin v 65 90).bind fun b=>bif b then nm p8 8 (frI s A i i) else (F.fin v 97 122).bind fun b=>bif b then nm p12 12 (frI s A i i) else Y v
noncomputable def rndB (nm:List Nat→Nat→St→Option PV)(Y:Int→Option PV):Option PV :=
  bif decide (i<(s.length:Int)) then ixB s i fun v=>bif (bif (v.toNat:Int)==32 then true else (v.toNat:Int)==10) then K (frL s A (IntKind.i64.wrap (i+1))) else
   bif (bif !((v.toNat:Int)==39) then (bif (v.toNat:Int)==88 then decide (IntKind.i64.wrap (i+1)<(s.length:Int)) else false) else false) then ixB s (IntKind.i64.wrap (i+1)) fun w=>bif (w.toNat:Int)==39 then strB s A i nm (v.toNat:Int) else resB F s A i nm Y (v.toNat:Int)
   else bif (bif !((v.toNat:Int)==39) then (bif (v.toNat:Int)==88 then decide (IntKind.i64.wrap (i+1)<(s.length:Int)) else false) else false) then none else bif (bif (v.toNat:Int)==39 then true else bif (bif (v.toNat:Int)==88 then decide (IntKind.i64.wrap (i+1)<(s.length:Int)) else false) then false else false) then strB s A i nm (v.toNat:Int) else resB F s A i nm Y (v.toNat:Int)
  else some (.tuple [A.sl,.int .i64 0,.bool true])
theorem st0c (nm:List Nat→Nat→St→Option PV)(G:List TV→List (Option (List TV))→Option PV) :
  stepC (enL2 F) hL2 fu (pfin (enL2 F) false fL2) nm fL2 p0 0 [(0,l2Tail F fu)] pSg (rdK 312 312 [0,5,6,7,8,9] [9] G) (frL s A i) (fun st=>pnorm (hL2.loop.lookup 0) st K) =
   rndB F s A i K nm fun v=>G [(.str s,0),(A.sl,319),(.int .i64 i,0),(.int .u8 v,0),(.int .i64 i,0),(.ptr 9 0,0)] [some (tzB i)]:=by kernel_rfl
end
section
variable (F:FL2) (fu:Nat) (s:List UInt8) (A:TA) (i a:Int) (K:St→Option PV)
theorem st0s (nm:List Nat→Nat→St→Option PV)(v:Int)(g:Nat→TV)(gb:Nat→Option (List TV)) :
  restB (enL2 F) hL2 fu (pfin (enL2 F) false fL2) nm fL2 p0 0 [(0,l2Tail F fu)] pSg (fun st=>pnorm (hL2.loop.lookup 0) st K) (frameG 312 312 [(0,(.str s,0)),(5,(A.sl,319)),(6,(.int .i64 i,0)),(7,(.int .u8 v,0)),(8,(.int .i64 a,0)),(9,(.ptr 9 0,0))] [(9,some (tzB a))] g gb) =
   sigB s A i a K v:=by kernel_rfl
end
end Go.Proofs.YtkpfigikffphdaaGreatDoor
end
