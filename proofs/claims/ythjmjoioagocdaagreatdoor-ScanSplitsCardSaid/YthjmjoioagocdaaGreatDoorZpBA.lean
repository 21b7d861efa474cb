/-
  Lemmas, part B1: what the claim needs of the texts of wip/tpl.
-/
import Derived.WalkKit
import Derived.WalkLawsBesides
import Derived.WalkSpells
import Derived.WalkSmall
import Derived.Maps.AppendAt
import Derived.Outline
import Derived.Lib.ValidLaws
import Derived.Test.YthjmjoioagocdaaGreatDoorProg
import Derived.Shelf.Unicode.ValidAny
import Derived.Lib.LaidU8
import Derived.Deep.RegionHeld3
import Derived.BigQuiet
import Derived.Deep.RegionWith
import Derived.Deep.DeepCutAuto
import Derived.Lib.SlBytesConst
import Derived.Test.YthjmjoioagocdaaGreatDoorCards
import Derived.Test.YthjmjoioagocdaaGreatDoorTie
import Derived.ProofKit
import Derived.OpenShut
import Derived.Deep.DeepHandedRow
import Derived.Lib.LaidTab
import Derived.Deep.Slices
set_option linter.unusedVariables false
set_option linter.unusedSimpArgs false
section
namespace Go.Proofs.YthjmjoioagocdaaGreatDoor.TS
open Go.RowKit
abbrev Ky:=List UInt8
theorem kl_irr:∀ (a:Ky),Op.bytesLess a a=false
 |[]=>rfl
 |a::x=>by simp[Op.bytesLess,kl_irr x,UInt8.lt_irrefl]
theorem kl_trans:∀ {a b c:Ky},Op.bytesLess a b=true→Op.bytesLess b c=true→Op.bytesLess a c=true
 |[],[],_,h,_=>by simp[Op.bytesLess] at h
 |[],_::_,[],_,k=>by simp[Op.bytesLess] at k
 |[],_::_,_::_,_,_=>by simp[Op.bytesLess]
 |_::_,[],_,h,_=>by simp[Op.bytesLess] at h
 |_::_,_::_,[],_,k=>by simp[Op.bytesLess] at k
 |a::x,b::y,c::z,h,k=>by
  simp only[Op.bytesLess,Bool.or_eq_true,Bool.and_eq_true,decide_eq_true_eq,beq_iff_eq] at h k ⊢
  rcases h with h|⟨rfl,h⟩
  ·rcases k with k|⟨rfl,k⟩
   ·exact .inl (UInt8.lt_trans h k)
   ·exact .inl h
  ·rcases k with k|⟨rfl,k⟩
   ·exact .inl k
   ·exact .inr ⟨rfl,kl_trans h k⟩
theorem kl_tri:∀ {a b:Ky},Op.bytesLess a b=false→Op.bytesLess b a=false→a=b
 |[],[],_,_=>rfl
 |[],_::_,h,_=>by simp[Op.bytesLess] at h
 |_::_,[],_,k=>by simp[Op.bytesLess] at k
 |a::x,b::y,h,k=>by
  simp only[Op.bytesLess,Bool.or_eq_false_iff,Bool.and_eq_false_iff,decide_eq_false_iff_not,beq_eq_false_iff_ne] at h k
  have hab:a=b:=by
   apply UInt8.toNat_inj.1
   have h1:=h.1
   have k1:=k.1
   rw[UInt8.lt_iff_toNat_lt] at h1 k1
   omega
  subst hab
  rw[kl_tri (h.2.resolve_left (fun e=>e rfl)) (k.2.resolve_left (fun e=>e rfl))]
theorem kl_asym {a b:Ky}(h:Op.bytesLess a b=true):Op.bytesLess b a=false:=by
 rcases hb:Op.bytesLess b a with _|_
 ·rfl
 ·have:=kl_trans h hb
  rw[kl_irr] at this
  cases this
theorem kl_ne {a b:Ky}(h:Op.bytesLess a b=true):a≠b:=by rintro rfl;rw[kl_irr] at h;cases h
theorem kl_le_lt {a b c:Ky}(h:Op.bytesLess b a=false)(k:Op.bytesLess b c=true):Op.bytesLess a c=true:=by
 rcases hb:Op.bytesLess a b with _|_
 ·rw[kl_tri hb h];exact k
 ·exact kl_trans hb k
theorem kl_lt_le {a b c:Ky}(h:Op.bytesLess a b=true)(k:Op.bytesLess c b=false):Op.bytesLess a c=true:=by
 rcases hb:Op.bytesLess b c with _|_
 ·rw[← kl_tri hb k];exact h
 ·exact kl_trans h hb
section
variable {β:Type}
def Srt (l:List (Ky×β)):Prop:=l.Pairwise fun p q=>Op.bytesLess p.1 q.1=true
def srtB:List (Ky×β)→Bool
 |[]=>true
 |p::r=>r.all (fun q=>Op.bytesLess p.1 q.1)&&srtB r
theorem srtB_iff:∀ (l:List (Ky×β)),srtB l=true↔Srt l
 |[]=>by simp[srtB,Srt]
 |p::r=>by
  have:=srtB_iff r
  simp only[srtB,Srt,Bool.and_eq_true,List.all_eq_true,List.pairwise_cons] at this ⊢
  rw[this]
def insK (k:Ky)(v:β):List (Ky×β)→List (Ky×β)
 |[]=>[(k,v)]
 |p::r=>if p.1==k then (k,v)::r else if Op.bytesLess k p.1 then (k,v)::p::r else p::insK k v r
def hasK (k:Ky)(l:List (Ky×β)):Bool:=l.any fun p=>p.1==k
def getK (k:Ky)(l:List (Ky×β)):Option β:=(l.find? fun p=>p.1==k).map (·.2)
def fromK (k:Ky)(l:List (Ky×β)):List (Ky×β):=l.filter fun p=>!Op.bytesLess p.1 k
def Low (k:Ky)(l:List (Ky×β)):Prop:=∀ p∈l,Op.bytesLess p.1 k=true
def High (k:Ky)(l:List (Ky×β)):Prop:=∀ p∈l,Op.bytesLess k p.1=true
theorem ins_low {k:Ky}{v:β}:∀ {A:List (Ky×β)} (X:List (Ky×β)),Low k A→insK k v (A++X)=A++insK k v X
 |[],X,_=>rfl
 |p::A,X,h=>by
  have hp:=h p List.mem_cons_self
  have h2:(p.1==k)=false:=by simpa using kl_ne hp
  simp only[List.cons_append,insK,h2,kl_asym hp,Bool.false_eq_true,if_false]
  rw[ins_low X fun q hq=>h q (List.mem_cons_of_mem _ hq)]
theorem ins_high {k:Ky}{v:β}{B:List (Ky×β)}(hB:High k B):∀ (X:List (Ky×β)),insK k v (X++B)=insK k v X++B
 |[]=>by
  cases B with
  |nil=>rfl
  |cons p B =>
   have hp:=hB p List.mem_cons_self
   have h2:(p.1==k)=false:=by simpa using (kl_ne hp).symm
   simp only[List.nil_append,insK,h2,hp,Bool.false_eq_true,if_false,if_true]
   rfl
 |p::X=>by
  simp only[List.cons_append,insK]
  rw[ins_high hB X]
  split
  ·rfl
  ·split<;>rfl
theorem ins_mid {k:Ky}{v:β}{A B:List (Ky×β)}(X:List (Ky×β))(hA:Low k A)(hB:High k B):insK k v (A++X++B)=A++insK k v X++B:=by
 rw[ins_high hB,ins_low X hA]
theorem low_has {k:Ky}{A:List (Ky×β)}(h:Low k A):hasK k A=false:=by
 rw[hasK,List.any_eq_false]
 intro p hp
 simpa using kl_ne (h p hp)
theorem high_has {k:Ky}{A:List (Ky×β)}(h:High k A):hasK k A=false:=by
 rw[hasK,List.any_eq_false]
 intro p hp
 simpa using (kl_ne (h p hp)).symm
theorem has_mid {k:Ky}{A B:List (Ky×β)}(X:List (Ky×β))(hA:Low k A)(hB:High k B):hasK k (A++X++B)=hasK k X:=by
 have h1:=low_has hA
 have h2:=high_has hB
 unfold hasK at *
 rw[List.any_append,List.any_append,h1,h2,Bool.or_false,Bool.false_or]
theorem find_none {k:Ky}{A:List (Ky×β)}(h:hasK k A=false):A.find? (fun p=>p.1==k)=none:=by
 rw[hasK,List.any_eq_false] at h
 rw[List.find?_eq_none]
 intro p hp
 have:=h p hp
 simpa using this
theorem get_mid {k:Ky}{A B:List (Ky×β)}(X:List (Ky×β))(hA:Low k A)(hB:High k B):getK k (A++X++B)=getK k X:=by
 unfold getK
 rw[List.find?_append,List.find?_append,find_none (low_has hA),find_none (high_has hB),Option.none_or,Option.or_none]
theorem get_has {k:Ky}{l:List (Ky×β)}:(getK k l).isSome=hasK k l:=by
 unfold getK hasK
 rw[Option.isSome_map]
 induction l with
 |nil=>rfl
 |cons p r ih =>
  rw[List.find?_cons,List.any_cons]
  cases (p.1==k) with
  |true=>rfl
  |false=>simpa using ih
theorem from_mid {k:Ky}{A B:List (Ky×β)}(X:List (Ky×β))(hA:Low k A)(hB:High k B):fromK k (A++X++B)=fromK k X++B:=by
 unfold fromK
 have h1:A.filter (fun p=>!Op.bytesLess p.1 k)=[]:=List.filter_eq_nil_iff.2 (fun p hp=>by simp[hA p hp])
 have h2:B.filter (fun p=>!Op.bytesLess p.1 k)=B:=List.filter_eq_self.2 (fun p hp=>by simp[kl_asym (hB p hp)])
 rw[List.filter_append,List.filter_append,h1,h2,List.nil_append]
theorem Srt.ins {k:Ky} {v:β}:∀ {l:List (Ky × β)},Srt l→Srt (insK k v l)
  | [],_=>by simp [insK,Srt]
  | p :: r, h => by
    have h':=List.pairwise_cons.1 h
    simp only [insK]
    split
    · rename_i e
      have e:p.1=k:=by simpa using e
      exact List.pairwise_cons.2 ⟨fun q hq=>by rw [← e];exact h'.1 q hq,h'.2⟩
    · split
      · rename_i e
        exact List.pairwise_cons.2 ⟨fun q hq=>by
          rcases List.mem_cons.1 hq with rfl | hq
          · exact e
          · exact kl_trans e (h'.1 q hq),h⟩
      · rename_i e1 e2
        refine List.pairwise_cons.2 ⟨?_,Srt.ins h'.2⟩
        have hpk:Op.bytesLess p.1 k=true:=by
          rcases hb:Op.bytesLess p.1 k with _ | _
          · exact absurd (kl_tri hb (by simpa using e2)) (by simpa using e1)
          · rfl
        have:∀ (r:List (Ky × β)),(∀ q ∈ r,Op.bytesLess p.1 q.1=true)→∀ q ∈ insK k v r,Op.bytesLess p.1 q.1=true:=by
          intro r
          induction r with
          | nil=>intro _ q hq;simp [insK] at hq;subst hq;exact hpk
          | cons a r ih =>
            intro hr q hq
            simp only [insK] at hq
            split at hq
            · rcases List.mem_cons.1 hq with rfl | hq
              · exact hpk
              · exact hr q (List.mem_cons_of_mem _ hq)
            · split at hq
              · rcases List.mem_cons.1 hq with rfl | hq
                · exact hpk
                · exact hr q hq
              · rcases List.mem_cons.1 hq with rfl | hq
                · exact hr _ List.mem_cons_self
                · exact ih (fun x hx=>hr x (List.mem_cons_of_mem _ hx)) q hq
        exact this r h'.1
theorem Srt.left {A B:List (Ky×β)}(h:Srt (A++B)):Srt A:=(List.pairwise_append.1 h).1
theorem Srt.right {A B:List (Ky×β)}(h:Srt (A++B)):Srt B:=(List.pairwise_append.1 h).2.1
theorem Srt.cross {A B:List (Ky×β)}(h:Srt (A++B)){p q:Ky×β}(hp:p∈A)(hq:q∈B):Op.bytesLess p.1 q.1=true:=(List.pairwise_append.1 h).2.2 p hp q hq
theorem ins_len {k:Ky}{v:β}:∀ {l:List (Ky×β)},Srt l→(insK k v l).length=l.length+(if hasK k l then 0 else 1)
 |[],_=>rfl
 |p::r,h=>by
  have h':=List.pairwise_cons.1 h
  simp only[insK,hasK,List.any_cons]
  by_cases e:(p.1==k)=true
  ·simp[e]
  ·have e:=Bool.eq_false_iff.2 e
   simp only[e,Bool.false_eq_true,if_false,Bool.false_or]
   rcases e2:Op.bytesLess k p.1 with _|_
   ·simp only[Bool.false_eq_true,if_false,List.length_cons]
    rw[ins_len h'.2]
    unfold hasK
    omega
   ·have:hasK k r=false:=high_has fun q hq=>kl_trans e2 (h'.1 q hq)
    unfold hasK at this
    simp only[this,Bool.false_eq_true,if_false,if_true,List.length_cons]
def TrD (β:Type):Nat→Type
 |0=>List (Ky×β)
 |d+1=>List (TrD β d)
abbrev as0 (t:TrD β 0):List (Ky×β):=t
abbrev asL {d:Nat}(t:TrD β (d+1)):List (TrD β d):=t
def cD:(d:Nat)→TrD β d→List (Ky×β)
 |0,l=>l
 |d+1,ks=>List.flatMap (cD d) (asL ks)
def szD:(d:Nat)→TrD β d→Nat
 |0,l=>List.length (as0 l)
 |_+1,ks=>List.length (asL ks)
def hdK (l:List (Ky×β)):Ky:=(l.head?.map (·.1)).getD []
def lkD:(d:Nat)→TrD β d→Ky
 |0,l=>hdK (as0 l)
 |d+1,ks=>((List.head? (asL ks)).map (lkD d)).getD []
def okD:Nat→(d:Nat)→TrD β d→Prop
 |m,0,l=>m≤List.length (as0 l)∧List.length (as0 l)≤8
 |m,d+1,ks=>(m≤List.length (asL ks)∧List.length (asL ks)≤8)∧∀ x∈(asL ks),okD 4 d x
def okB:Nat→(d:Nat)→TrD β d→Bool
 |m,0,l=>decide (m≤List.length (as0 l))&&decide (List.length (as0 l)≤8)
 |m,d+1,ks=>(decide (m≤List.length (asL ks))&&decide (List.length (asL ks)≤8))&&(List.all (asL ks) fun x=>okB 4 d x)
theorem okB_iff:∀ (m d:Nat) (t:TrD β d),okB m d t=true↔okD m d t
 |m,0,l=>by simp[okB,okD]
 |m,d+1,ks=>by
  simp only[okB,okD,Bool.and_eq_true,decide_eq_true_eq,List.all_eq_true]
  constructor
  ·rintro ⟨h1,h2⟩;exact⟨h1,fun x hx=>(okB_iff 4 d x).1 (h2 x hx)⟩
  ·rintro ⟨h1,h2⟩;exact⟨h1,fun x hx=>(okB_iff 4 d x).2 (h2 x hx)⟩
theorem okD.weaken {m m' d:Nat}(hm:m'≤m):∀ {t:TrD β d},okD m d t→okD m' d t:=by
 cases d with
 |zero=>intro t h;exact⟨Nat.le_trans hm h.1,h.2⟩
 |succ d=>intro t h;exact⟨⟨Nat.le_trans hm h.1.1,h.1.2⟩,h.2⟩
theorem okD.sz {m d:Nat}{t:TrD β d}(h:okD m d t):m≤szD d t∧szD d t≤8:=by
 cases d with
 |zero=>exact h
 |succ d=>exact h.1
theorem okD.raise {m m' d:Nat}{t:TrD β d}(h:okD m d t)(hs:m'≤szD d t):okD m' d t:=by
 cases d with
 |zero=>exact⟨hs,h.2⟩
 |succ d=>exact⟨⟨hs,h.1.2⟩,h.2⟩
theorem len_flat_le {α γ:Type}{f:α→List γ}{m:Nat}:∀ {l:List α},(∀ x∈l,m≤(f x).length)→m * l.length≤(l.flatMap f).length
 |[],_=>by simp
 |x::l,h=>by
  have h1:=h x List.mem_cons_self
  have h2:=len_flat_le (l:=l) fun y hy=>h y (List.mem_cons_of_mem _ hy)
  rw[List.flatMap_cons,List.length_append,List.length_cons,Nat.mul_succ]
  omega
theorem okD.least:∀ {m d:Nat} {t:TrD β d},okD m d t→m * 4^d≤(cD d t).length
 |m,0,l,h=>by simpa [cD] using h.1
 |m,d+1,ks,h=>by
  have:=len_flat_le (f:=cD d) (m:=4 * 4^d) (l:=(asL ks)) fun x hx=>okD.least (h.2 x hx)
  calc m * 4^(d+1)=(4 * 4^d) * m:=by rw[Nat.pow_succ,Nat.mul_comm,Nat.mul_comm (4^d) 4]
   _≤(4 * 4^d) * List.length (asL ks):=Nat.mul_le_mul_left _ h.1.1
   _≤_:=this
theorem okD.nonempty {m d:Nat}{t:TrD β d}(h:okD m d t)(hm:0<m):cD d t≠[]:=by
 have h1:=h.least
 have h2:0<m * 4^d:=Nat.mul_pos hm (Nat.pow_pos (by omega))
 intro e
 rw[e] at h1
 simp at h1
 omega
theorem hdK_append {A B:List (Ky×β)}(h:A≠[]):hdK (A++B)=hdK A:=by
 cases A with
 |nil=>exact absurd rfl h
 |cons _ _=>rfl
theorem lk_hd:∀ {m d:Nat} {t:TrD β d},okD m d t→0<m→lkD d t=hdK (cD d t)
 |m,0,l,h,_=>rfl
 |m,d+1,ks,h,hm=>by
  obtain⟨h1,h2⟩:=h
  cases ks with
  |nil=>simp at h1;omega
  |cons x r =>
   have hx:=h2 x List.mem_cons_self
   show lkD d x=hdK (List.flatMap (cD d) (x::r))
   rw[List.flatMap_cons,hdK_append (hx.nonempty (by omega))]
   exact lk_hd hx (by omega)
theorem hdK_mem {l:List (Ky×β)}(h:l≠[]):∃ p∈l,p.1=hdK l:=by
 cases l with
 |nil=>exact absurd rfl h
 |cons p _=>exact⟨p,List.mem_cons_self,rfl⟩
theorem hdK_le {l:List (Ky×β)}(h:Srt l){p:Ky×β}(hp:p∈l):Op.bytesLess p.1 (hdK l)=false:=by
 cases l with
 |nil=>cases hp
 |cons q r =>
  rcases List.mem_cons.1 hp with rfl|hp
  ·exact kl_irr _
  ·exact kl_asym ((List.pairwise_cons.1 h).1 p hp)
def kcN (keys:List Ky)(x:Ky):Nat:=(keys.takeWhile fun a=>!Op.bytesLess x a).length
def kidN {d:Nat}(ks:List (TrD β d))(x:Ky):Nat:=kcN (ks.map (lkD d)) x-1
theorem kcN_le (x:Ky)(l:List Ky):kcN l x≤l.length:=List.Sublist.length_le (List.takeWhile_sublist _)
theorem kcN_lt {x:Ky}:∀ {l:List Ky} {j:Nat} {a:Ky},j<kcN l x→l[j]? = some a→Op.bytesLess x a=false
 |[],j,a,h,_=>by simp[kcN] at h
 |b::l,j,a,h,ha=>by
  unfold kcN at h
  rw[List.takeWhile_cons] at h
  split at h
  ·rename_i hb
   cases j with
   |zero=>simp at ha;subst ha;simpa using hb
   |succ j=>exact kcN_lt (l:=l) (j:=j) (by simpa [kcN] using h) (by simpa using ha)
  ·simp at h
theorem kcN_at {x:Ky}:∀ {l:List Ky} {a:Ky},l[kcN l x]? = some a→Op.bytesLess x a=true
 |[],a,h=>by simp[kcN] at h
 |b::l,a,h=>by
  unfold kcN at h
  rw[List.takeWhile_cons] at h
  split at h
  ·exact kcN_at (l:=l) (by simpa [kcN] using h)
  ·rename_i hb
   simp at h
   subst h
   simpa using hb
theorem take_get_drop {α:Type}{l:List α}{i:Nat}{x:α}(h:l[i]? = some x):l=l.take i++[x]++l.drop (i+1):=by
 obtain⟨hi,e⟩:=List.getElem?_eq_some_iff.1 h
 rw[← e,List.append_assoc,List.singleton_append,← List.drop_eq_getElem_cons hi,List.take_append_drop]
theorem kid_split {d:Nat}{ks:List (TrD β d)}{x:Ky}(hok:∀ k∈ks,okD 4 d k)(hne:0<ks.length)(hs:Srt (ks.flatMap (cD d))) :
  ∃ k,ks[kidN ks x]? = some k∧Low x ((ks.take (kidN ks x)).flatMap (cD d))∧High x ((ks.drop (kidN ks x+1)).flatMap (cD d)):=by
 have hle:=kcN_le x (ks.map (lkD d))
 rw[List.length_map] at hle
 have hi:kidN ks x<ks.length:=by unfold kidN;omega
 refine⟨ks[kidN ks x],List.getElem?_eq_getElem hi,?_,?_⟩
 ·intro p hp
  obtain⟨y,hy,hpy⟩:=List.mem_flatMap.1 hp
  have hpos:0<kidN ks x:=by
   rcases Nat.eq_zero_or_pos (kidN ks x) with e|e
   ·rw[e] at hy;simp at hy
   ·exact e
  have hsp:=take_get_drop (List.getElem?_eq_getElem hi)
  have hs2:=hs
  rw[hsp,List.append_assoc,List.flatMap_append] at hs2
  have hk4:=hok _ (List.getElem_mem hi)
  obtain⟨q,hq,hqk⟩:=hdK_mem (hk4.nonempty (by omega))
  have h1:Op.bytesLess p.1 q.1=true:=hs2.cross hp (by rw[List.flatMap_append];exact List.mem_append_left _ (by simpa using hq))
  have h2:Op.bytesLess x (lkD d ks[kidN ks x])=false:=kcN_lt (l:=ks.map (lkD d)) (j:=kidN ks x) (by unfold kidN at hpos ⊢;omega) (by rw[List.getElem?_map,List.getElem?_eq_getElem hi];rfl)
  rw[lk_hd hk4 (by omega),← hqk] at h2
  exact kl_lt_le h1 h2
 ·intro p hp
  obtain⟨y,hy,hpy⟩:=List.mem_flatMap.1 hp
  have hj:kcN (ks.map (lkD d)) x<ks.length:=by
   have:0<(ks.drop (kidN ks x+1)).length:=List.length_pos_of_mem hy
   rw[List.length_drop] at this
   unfold kidN at this
   omega
  have hk4:=hok _ (List.getElem_mem hj)
  have hlt:Op.bytesLess x (lkD d ks[kcN (ks.map (lkD d)) x])=true:=kcN_at (l:=ks.map (lkD d)) (by rw[List.getElem?_map,List.getElem?_eq_getElem hj];rfl)
  rw[lk_hd hk4 (by omega)] at hlt
  have hy2:y∈ks.drop (kcN (ks.map (lkD d)) x):=by
   have e:ks.drop (kidN ks x+1)=(ks.drop (kcN (ks.map (lkD d)) x)).drop (kidN ks x+1-kcN (ks.map (lkD d)) x):=by
    rw[List.drop_drop];congr 1;unfold kidN;omega
   rw[e] at hy
   exact List.mem_of_mem_drop hy
  have hs2:=hs
  rw[← List.take_append_drop (kcN (ks.map (lkD d)) x) ks,List.flatMap_append] at hs2
  have hs3:=hs2.right
  rw[List.drop_eq_getElem_cons hj] at hs3 hy2
  have hp2:p∈List.flatMap (cD d) (ks[kcN (ks.map (lkD d)) x]::ks.drop (kcN (ks.map (lkD d)) x+1)):=List.mem_flatMap.2 ⟨y,hy2,hpy⟩
  have h2:=hdK_le hs3 hp2
  rw[List.flatMap_cons,hdK_append (hk4.nonempty (by omega))] at h2
  exact kl_lt_le hlt h2
theorem flat_split {d:Nat}{ks:List (TrD β d)}{i:Nat}{k:TrD β d}(h:ks[i]? = some k):ks.flatMap (cD d)=(ks.take i).flatMap (cD d)++cD d k++(ks.drop (i+1)).flatMap (cD d):=by
 conv=>lhs;rw[take_get_drop h]
 rw[List.flatMap_append,List.flatMap_append,List.flatMap_singleton]
def splitL {α:Type}(l:List α):List (List α):=if l.length≤8 then [l] else [l.take (l.length/2),l.drop (l.length/2)]
theorem splitL_flat {α:Type}(l:List α):(splitL l).flatten=l:=by
 unfold splitL
 split
 ·simp
 ·simp
theorem flat_flat {α γ:Type}{f:α→List γ}:∀ (L:List (List α)),L.flatMap (List.flatMap f)=L.flatten.flatMap f
 |[]=>rfl
 |x::L=>by rw[List.flatMap_cons,List.flatten_cons,List.flatMap_append,flat_flat L]
theorem splitL_len {α:Type}{l:List α}{m:Nat}(h1:m≤l.length)(h2:l.length≤16):∀ x∈splitL l,min m 4≤x.length∧x.length≤8:=by
 intro x hx
 unfold splitL at hx
 split at hx
 ·simp at hx;subst hx;omega
 ·simp at hx
  rcases hx with rfl|rfl
  ·simp;omega
  ·simp;omega
theorem splitL_num {α:Type}(l:List α):(splitL l).length=1∨(splitL l).length=2:=by
 unfold splitL
 split
 ·exact .inl rfl
 ·exact .inr rfl
def putD:(d:Nat)→TrD β d→Ky→β→List (TrD β d)×Bool
 |0,l,k,v=>(splitL (insK k v (as0 l)),!hasK k (as0 l))
 |d+1,ks,k,v=>match (asL ks)[kidN (asL ks) k]? with
  |some x=>(splitL (List.take (kidN (asL ks) k) (asL ks)++(putD d x k v).1++List.drop (kidN (asL ks) k+1) (asL ks)),(putD d x k v).2)
  |none=>([],false)
theorem put_spec:∀ {m d:Nat} {t:TrD β d} {k:Ky} {v:β},okD m d t→0<m→Srt (cD d t) →
  (putD d t k v).1.flatMap (cD d)=insK k v (cD d t)∧(putD d t k v).2=(!hasK k (cD d t))∧((putD d t k v).1.length=1∨(putD d t k v).1.length=2)∧(∀ y∈(putD d t k v).1,okD (min m 4) d y)
 |m,0,l,k,v,h,hm,hs=>by
  have h1:m≤List.length (as0 l):=h.1
  have h2:List.length (as0 l)≤8:=h.2
  have hl:=ins_len (k:=k) (v:=v) (l:=as0 l) hs
  refine⟨?_,rfl,splitL_num _,?_⟩
  ·show List.flatMap (fun l:List (Ky×β)=>l) (splitL (insK k v l))=insK k v l
   rw[List.flatMap_id']
   exact splitL_flat _
  ·intro y hy
   exact splitL_len (m:=m) (by rw[hl];omega) (by rw[hl];split<;>omega) y hy
 |m,d+1,ks,k,v,h,hm,hs=>by
  obtain⟨⟨h1,h2⟩,h3⟩:=h
  obtain⟨x,hx,hA,hB⟩:=kid_split (x:=k) h3 (by omega) hs
  have hx4:=h3 x (List.mem_of_getElem? hx)
  have hfl:=flat_split hx
  have hsx:Srt (cD d x):=by
   have:=hs
   change Srt (List.flatMap (cD d) (asL ks)) at this
   rw[hfl,List.append_assoc] at this
   exact this.right.left
  obtain⟨q1,q2,q3,q4⟩:=put_spec (v:=v) (k:=k) hx4 (by omega) hsx
  have e:putD (d+1) ks k v=(splitL (List.take (kidN (asL ks) k) (asL ks)++(putD d x k v).1++List.drop (kidN (asL ks) k+1) (asL ks)),(putD d x k v).2):=by
   simp only[putD]
   rw[hx]
   rfl
  have hi:kidN (asL ks) k<List.length (asL ks):=(List.getElem?_eq_some_iff.1 hx).1
  rw[e]
  have hc:cD (d+1) ks=List.flatMap (cD d) (asL ks):=rfl
  have hlen:(List.take (kidN (asL ks) k) (asL ks)++(putD d x k v).1++List.drop (kidN (asL ks) k+1) (asL ks)).length=List.length (asL ks)-1+(putD d x k v).1.length:=by
   simp only[List.length_append,List.length_take,List.length_drop]
   omega
  refine⟨?_,?_,splitL_num _,?_⟩
  ·show List.flatMap (List.flatMap (cD d)) (splitL _)=_
   rw[flat_flat,splitL_flat,hc,hfl,ins_mid _ hA hB,List.flatMap_append,List.flatMap_append,q1]
  ·show (putD d x k v).2=_
   rw[q2,hc,hfl,has_mid _ hA hB]
  ·intro y hy
   have hy':=splitL_len (m:=m) (by rw[hlen];omega) (by rw[hlen];omega) y hy
   refine⟨hy',?_⟩
   intro z hz
   have hz':z∈(splitL (List.take (kidN (asL ks) k) (asL ks)++(putD d x k v).1++List.drop (kidN (asL ks) k+1) (asL ks))).flatten:=List.mem_flatten.2 ⟨y,hy,hz⟩
   rw[splitL_flat] at hz'
   rcases List.mem_append.1 hz' with hz' | hz'
   ·rcases List.mem_append.1 hz' with hz' | hz'
    ·exact h3 z (List.mem_of_mem_take hz')
    ·exact q4 z hz'
   ·exact h3 z (List.mem_of_mem_drop hz')
end
end Go.Proofs.YthjmjoioagocdaaGreatDoor.TS
end
section
namespace Go.Proofs.YthjmjoioagocdaaGreatDoor
open Go.RowKit
theorem hide {p:Prop}(h:p):Hid p:=h
theorem unhide {p:Prop}(h:Hid p):p:=h
def Ret (w:World)(v:Value):Ending→World→Prop:=fun e w'=>e=.returned v∧Below w.heap.size w w'
theorem bcell {W w1:World}(hb:Below W.heap.size W w1):(∀ b o,b<W.heap.size→w1.cell? ⟨b,o,none⟩=W.cell? ⟨b,o,none⟩)∧(∀ b o,b<W.heap.size→w1.frozen? ⟨b,o,none⟩=W.frozen? ⟨b,o,none⟩)∧W.heap.size≤w1.heap.size :=
 ⟨fun b o h=>hb.cell (p:=⟨b,o,none⟩) h,fun b o h=>hb.frozen (p:=⟨b,o,none⟩) h,hb.size⟩
theorem below_step {W w1 w:World}{B:Nat}(hb:Below W.heap.size W w1)(h:Below B w W)(hB:B≤W.heap.size):Below B w w1:=h.trans (hb.mono hB)
def bv (c:UInt8):Value:=.int .u8 c.toNat
def bvs (l:List UInt8):List Value:=l.map bv
theorem bvs_length (l:List UInt8):(bvs l).length=l.length:=by simp[bvs]
theorem bvs_append (a b:List UInt8):bvs (a++b)=bvs a++bvs b:=by simp[bvs]
theorem bvs_one (l:List UInt8):∀ u∈bvs l,u.oneCell'=true:=by
 intro u hu
 simp only[bvs,List.mem_map] at hu
 obtain⟨c,_,rfl⟩:=hu
 rfl
theorem bvs_get {l:List UInt8}{k:Nat}{c:UInt8}(h:l[k]? = some c):(bvs l)[k]? = some (bv c):=by simp[bvs,h]
structure Val where
 kind:Int
 n:Int
 scale:Int
 s:List UInt8
theorem Val.ext' {a b:Val}(h1:a.kind=b.kind)(h2:a.n=b.n)(h3:a.scale=b.scale)(h4:a.s=b.s):a=b:=by
 cases a;cases b;simp_all
instance:DecidableEq Val:=fun a b =>
 if h:a.kind=b.kind∧a.n=b.n∧a.scale=b.scale∧a.s=b.s then isTrue (Val.ext' h.1 h.2.1 h.2.2.1 h.2.2.2)
 else isFalse (fun e=>h (by subst e;exact⟨rfl,rfl,rfl,rfl⟩))
def Val.cells (v:Val):List Value:=[.int .i64 v.kind,.int .i64 v.n,.int .i64 v.scale,.string ⟨v.s.toArray⟩]
def vcs (l:List Val):List Value:=l.flatMap Val.cells
theorem vcs_length (l:List Val):(vcs l).length=l.length * 4:=by
 induction l with
 |nil=>rfl
 |cons a l ih=>rw[vcs,List.flatMap_cons,List.length_append,← vcs,ih];simp[Val.cells];omega
theorem vcs_get {l:List Val}{k:Nat}{x:Val}(hk:l[k]? = some x):∀ i,i<4→(vcs l)[k * 4+i]? = x.cells[i]? := by
 induction l generalizing k with
 |nil=>simp at hk
 |cons y l ih =>
  intro i hi
  rw[vcs,List.flatMap_cons,← vcs]
  cases k with
  |zero =>
   simp at hk
   subst hk
   rw[List.getElem?_append_left (by simp[Val.cells];omega)];simp
  |succ k =>
   rw[List.getElem?_append_right (by simp[Val.cells];omega)]
   have:=ih (by simpa using hk) i hi
   rw[← this]
   congr 1
   simp[Val.cells];omega
def ValAt (w:World)(b o:Nat)(x:Val):Prop :=
 w.cell? ⟨b,o,none⟩=some (.int .i64 x.kind)∧w.cell? ⟨b,o+1,none⟩=some (.int .i64 x.n)∧w.cell? ⟨b,o+2,none⟩=some (.int .i64 x.scale)∧w.cell? ⟨b,o+3,none⟩=some (.string ⟨x.s.toArray⟩)
structure Sl (w:World)(size:Nat)(A:Option Addr)(n c:Nat)(xs:List Value):Prop where
 len:xs.length=n * size
 nc:n≤c
 cm:c≤maxLen
 at_:0<n→∃ b o,A=some ⟨b,o,none⟩∧b<w.heap.size∧∀ j u,xs[j]? = some u→w.cell? ⟨b,o+j,none⟩=some u
theorem Sl.below {w w':World}{size:Nat}{A:Option Addr}{n c:Nat}{xs:List Value}(h:Sl w size A n c xs){B:Nat}(hb:Below B w w')(hB:w.heap.size≤B):Sl w' size A n c xs :=
 ⟨h.len,h.nc,h.cm,fun hn=>by
  obtain⟨b,o,e,hlt,hc⟩:=h.at_ hn
  exact⟨b,o,e,Nat.lt_of_lt_of_le hlt hb.size,fun j u hu=>(hb.cell (p:=⟨b,o+j,none⟩) (Nat.lt_of_lt_of_le hlt hB)).trans (hc j u hu)⟩⟩
theorem Sl.mono {w w':World}{size:Nat}{A:Option Addr}{n c:Nat}{xs:List Value}(h:Sl w size A n c xs)(hb:Below w.heap.size w w'):Sl w' size A n c xs:=h.below hb (Nat.le_refl _)
theorem Sl.alloc {w:World}{size:Nat}{A:Option Addr}{n c:Nat}{xs:List Value}(h:Sl w size A n c xs)(o:Obj):Sl (w.alloc o) size A n c xs :=
 h.mono ((Below.refl _ _).alloc (Nat.le_refl _) _)
theorem Sl.drew {w:World}{size:Nat}{A:Option Addr}{n c:Nat}{xs:List Value}(h:Sl w size A n c xs):Sl w.drew size A n c xs:=h.mono (Below.refl _ _).drew
theorem Sl.drewN {w:World}{size:Nat}{A:Option Addr}{n c:Nat}{xs:List Value}(h:Sl w size A n c xs)(q:Nat):Sl (w.drewN q) size A n c xs:=h.mono (Go.below_drewN (Below.refl _ _) q)
theorem Sl.zero (w:World)(size:Nat)(A:Option Addr)(c:Nat)(hc:c≤maxLen):Sl w size A 0 c []:=⟨by simp,Nat.zero_le _,hc,fun h=>absurd h (by omega)⟩
theorem Sl.val {w:World}{A:Option Addr}{n c:Nat}{l:List Val}(h:Sl w 4 A n c (vcs l)){k:Nat}(hk:k<n) :
  ∃ b o x,A=some ⟨b,o,none⟩∧b<w.heap.size∧l[k]? = some x∧ValAt w b (o+k * 4) x:=by
 obtain⟨b,o,rfl,hlt,hc⟩:=h.at_ (by omega)
 have hlen:l.length=n:=by have:=h.len;rw[vcs_length] at this;omega
 have hx:l[k]? = some l[k]:=by simp
 have g:=vcs_get hx
 refine⟨b,o,l[k],rfl,hlt,hx,?_,?_,?_,?_⟩
 ·have:=hc (k * 4+0) _ ((g 0 (by omega)).trans rfl);simpa using this
 ·have:=hc (k * 4+1) _ ((g 1 (by omega)).trans rfl);simpa [Nat.add_assoc] using this
 ·have:=hc (k * 4+2) _ ((g 2 (by omega)).trans rfl);simpa [Nat.add_assoc] using this
 ·have:=hc (k * 4+3) _ ((g 3 (by omega)).trans rfl);simpa [Nat.add_assoc] using this
theorem Sl.vlen {w:World}{A:Option Addr}{n c:Nat}{l:List Val}(h:Sl w 4 A n c (vcs l)):l.length=n:=by have:=h.len;rw[vcs_length] at this;omega
theorem Sl.blen {w:World}{A:Option Addr}{n c:Nat}{l:List UInt8}(h:Sl w 1 A n c (bvs l)):l.length=n:=by have:=h.len;rw[bvs_length] at this;omega
theorem Sl.byte {w:World}{A:Option Addr}{n c:Nat}{l:List UInt8}(h:Sl w 1 A n c (bvs l)){k:Nat}(hk:k<n) :
  ∃ b o x,A=some ⟨b,o,none⟩∧b<w.heap.size∧l[k]? = some x∧w.cell? ⟨b,o+k,none⟩=some (.int .u8 (x.toNat:Int)):=by
 obtain⟨b,o,rfl,hlt,hc⟩:=h.at_ (by omega)
 have hlen:=h.blen
 have hx:l[k]? = some l[k]:=by simp
 exact⟨b,o,l[k],rfl,hlt,hx,hc k _ (bvs_get hx)⟩
theorem Sl.cut {w:World}{size:Nat}{A:Option Addr}{n c:Nat}{xs:List Value}(h:Sl w size A n c xs){k:Nat}(hk:k≤n) :
  Sl w size (if c=k then A else A.map (·.add (k * size))) (n-k) (c-k) (xs.drop (k * size)):=by
 refine⟨by rw[List.length_drop,h.len,Nat.sub_mul],by have:=h.nc;omega,by have:=h.cm;omega,fun hn=>?_⟩
 have hnc:=h.nc
 obtain⟨b,o,rfl,hlt,hc⟩:=h.at_ (by omega)
 rw[if_neg (by omega)]
 refine⟨b,o+k * size,?_,hlt,fun j u hu=>?_⟩
 ·simp only[Option.map_some,Addr.add]
  by_cases e:k * size=0
  ·rw[if_pos e,e];rfl
  ·rw[if_neg e]
 ·rw[List.getElem?_drop] at hu
  have:=hc _ u hu
  rwa [← Nat.add_assoc] at this
theorem Sl.upto {w:World}{size:Nat}{A:Option Addr}{n c:Nat}{xs:List Value}(h:Sl w size A n c xs){k:Nat}(hk:k≤n) :
  Sl w size A k c (xs.take (k * size)):=by
 have hnc:=h.nc
 refine⟨by rw[List.length_take,h.len];exact Nat.min_eq_left (Nat.mul_le_mul_right _ hk),by omega,h.cm,fun hn=>?_⟩
 obtain⟨b,o,rfl,hlt,hc⟩:=h.at_ (by omega)
 exact⟨b,o,rfl,hlt,fun j u hu=>hc j u (by rw[List.getElem?_take] at hu;split at hu<;>simp_all)⟩
theorem own_form {w:World}{B:Nat}{e:TypeId}{size:Nat}{v:Value}{n:Nat}{xs:List Value}(h:w.ownsRow B e size v n xs) :
  ∃ A c,v=.slice A n c∧Sl w size A n c xs∧(A=none∨∃ g,A=some ⟨g,0,none⟩∧B≤g∧g<w.heap.size):=by
 have hl:=h.1
 rcases h.2 with ⟨rfl,rfl⟩|⟨g,cap,cur,rfl,hg,hh,hnc,hcm,hsz,ht⟩
 ·exact⟨none,0,rfl,⟨hl,Nat.le_refl _,Nat.zero_le _,fun h=>absurd h (by omega)⟩,.inl rfl⟩
 ·have hlt:=(h.lt g rfl).2
  refine⟨_,cap,rfl,⟨hl,hnc,hcm,fun _=>⟨g,0,rfl,hlt,fun j u hu=>?_⟩⟩,.inr ⟨g,rfl,hg,hlt⟩⟩
  have:=h.cells (g:=g) rfl j u hu
  rw[← this]
  congr 1
  unfold Addr.add
  split<;>simp_all
structure Ext (w:World)(v:Value)(w':World)(v':Value):Prop where
 grown:w.grownBy w' v.ownBlock
 lies:v'.ownBlock=v.ownBlock∨∃ k,v'.ownBlock=some k∧w.heap.size≤k
theorem Ext.refl (w:World)(v:Value):Ext w v w v:=⟨World.grownBy.refl _ _,.inl rfl⟩
theorem Ext.trans {w w1 w2:World}{v v1 v2:Value}(h:Ext w v w1 v1)(k:Ext w1 v1 w2 v2):Ext w v w2 v2:=by
 refine⟨⟨k.grown.os.trans h.grown.os,k.grown.tape.trans h.grown.tape,k.grown.output.trans h.grown.output,Nat.le_trans h.grown.size k.grown.size,fun i hi hne=>(k.grown.block i (Nat.lt_of_lt_of_le hi h.grown.size) ?_).trans (h.grown.block i hi hne)⟩,?_⟩
 ·rcases h.lies with e|⟨g,e,hg⟩<;>rw[e]
  ·exact hne
  ·intro c
   injection c with c
   omega
 ·rcases k.lies with e|⟨g,e,hg⟩
  ·rw[e]
   exact h.lies
  ·exact .inr ⟨g,e,Nat.le_trans h.grown.size hg⟩
theorem Ext.after {w w1 w2:World}{v v1:Value}(h:Ext w v w1 v1)(k:Below w1.heap.size w1 w2):Ext w v w2 v1 :=
 h.trans ⟨⟨k.os,k.tape,k.output,k.size,fun i hi _=>k.block i hi⟩,.inl rfl⟩
theorem Ext.appended {w w1 w':World}{v v':Value}(hb:Below w.heap.size w w1)(hg:w1.grownBy w' v.ownBlock)(hat:v'.ownBlock=v.ownBlock∨v'.ownBlock=some w1.heap.size):Ext w v w' v':=by
 refine⟨⟨hg.os.trans hb.os,hg.tape.trans hb.tape,hg.output.trans hb.output,Nat.le_trans hb.size hg.size,fun i hi hne=>(hg.block i (Nat.lt_of_lt_of_le hi hb.size) hne).trans (hb.block i hi)⟩,?_⟩
 rcases hat with e|e
 ·exact .inl e
 ·exact .inr ⟨_,e,hb.size⟩
theorem Ext.below {w w':World}{v v':Value}(h:Ext w v w' v'){B:Nat}(hB:B≤w.heap.size)(hv:∀ k,v.ownBlock=some k→B≤k):Below B w w' :=
 ⟨h.grown.os,h.grown.tape,h.grown.output,h.grown.size,fun i hi=>h.grown.block i (by omega) (fun e=>by have:=hv i e.symm;omega)⟩
theorem own_lies {w:World}{B:Nat}{e:TypeId}{size:Nat}{v:Value}{n:Nat}{xs:List Value}(h:w.ownsRow B e size v n xs):∀ k,v.ownBlock=some k→B≤k:=fun k hk=>(h.lt k hk).1
theorem own_mono {w:World}{B B':Nat}{e:TypeId}{size:Nat}{v:Value}{n:Nat}{xs:List Value}(h:w.ownsRow B e size v n xs)(hB:B'≤B):w.ownsRow B' e size v n xs:=by
 refine⟨h.1,?_⟩
 rcases h.2 with h2|⟨g,cap,cur,hv,hg,r⟩
 ·exact .inl h2
 ·exact .inr ⟨g,cap,cur,hv,by omega,r⟩
theorem own_below {w w':World}{B:Nat}{e:TypeId}{size:Nat}{v:Value}{n:Nat}{xs:List Value}(h:w.ownsRow B e size v n xs){C:Nat}(hb:Below C w w')(hC:w.heap.size≤C):w'.ownsRow B e size v n xs:=by
 refine⟨h.1,?_⟩
 rcases h.2 with h2|⟨g,cap,cur,hv,hg,hh,r⟩
 ·exact .inl h2
 ·have:=(h.lt g (by rw[hv];rfl)).2
  exact .inr ⟨g,cap,cur,hv,hg,(hb.block g (by omega)).trans hh,r⟩
theorem run_sl_string {P:Program}(w:World)(src dst e:TypeId)(hs:P.underlying src=some (.slice e))(he:P.underlying e=some (.int .u8))(hd:P.underlying dst=some .string)
  (A:Option Addr) (n c:Nat) (l:List UInt8) (h:Sl w 1 A n c (bvs l)):(convert src dst (.slice A n c)).run P w=.ok (.string ⟨l.toArray⟩) w:=by
 have hlen:=h.blen
 rcases A with _|ad
 ·have hn:n=0:=by
   rcases Nat.eq_zero_or_pos n with h0|h0
   ·exact h0
   ·obtain⟨_,_,e,_⟩:=h.at_ h0
    cases e
  subst hn
  have:l=[]:=List.eq_nil_of_length_eq_zero hlen
  subst this
  exact run_convert_bytes_nil w src e hs he 0 c dst hd
 ·rcases Nat.eq_zero_or_pos n with h0|h0
  ·subst h0
   have:l=[]:=List.eq_nil_of_length_eq_zero hlen
   subst this
   have hl:(loadCells ad 0).run P w=.ok (([]:List Int).map (Value.int .u8)).toArray w:=by
    have:=run_loadCells_list (P:=P) w ad [] (fun j v hj=>by simp at hj)
    simpa using this
   rw[run_convert_bytes_string w src dst e _ 0 c hs he hd,run_bytesToString w ad 0 c [] hl,foldl_push_bytes]
   rfl
  ·obtain⟨b,o,e1,_,hc⟩:=h.at_ h0
   injection e1 with e1
   subst e1
   have:=run_convert_bytes_arg w src e hs he b o n c (l.map fun x=>(x.toNat:Int)) (by simpa using hlen) (fun i hi=>by
    have hx:l[i]? = some (l[i]'(by omega)):=List.getElem?_eq_getElem (by omega)
    have h2:=hc i _ (bvs_get hx)
    rw[h2]
    simp[bv,List.getD,hx]) dst hd
   rw[this]
   unfold strOfNums
   congr 4
   rw[List.map_map]
   conv=>rhs;rw[← List.map_id l]
   apply List.map_congr_left
   intro x _
   simp
theorem wpList_sl_string {P:Program}{w:World}{ops:Array Oper}{rest:List Oper}{o:Oper}{a:Act}{Q:Exit→Act→World→Prop}(hgd:o.guard=none)(src dst e:TypeId)(x:Operand)
  (ho:o.op=.convert src dst x) (hs:P.underlying src=some (.slice e)) (he:P.underlying e=some (.int .u8)) (hd:P.underlying dst=some .string)
  {A:Option Addr} {n c:Nat} {l:List UInt8} (hx:a.eval x=.slice A n c) (h:Sl w 1 A n c (bvs l))
  (k:wpList P ops Q rest (a.put o.dst (.string ⟨l.toArray⟩)) w):wpList P ops Q (o::rest) a w:=by
 refine wpList_plain hgd fun K hK=>?_
 unfold Oper.wp execOp
 simp only[ho,hx,Sem.run_bind,run_sl_string w src dst e hs he hd A n c l h,Result.andThen_ok,Sem.run_pure]
 exact hK _ _ k
theorem run_append_sl {P:Program}(w:World)(base:Nat)(t ty e:TypeId)(i:TypeInfo)(z:Value)(size bytes:Nat)(ht:P.underlying t=some (.slice e))(hi:P.info? e=some i)(hz:i.zero=some z)
  (hsize:i.size=size) (hby:i.bytes=bytes) (hzs:z.cells.size=size) (hsz:0<size)
  (v:Value) (n:Nat) (xs:List Value) (hown:w.ownsRow base e size v n xs)
  (A:Option Addr) (m c:Nat) (news:List Value) (hr:Sl w size A m c news) (h1:∀ u∈news,u.oneCell'=true)
  (h63:n+m≤maxLen) (hbytes:(n+m) * bytes≤140737488355328) (hbase:base≤w.heap.size) :
  ∃ v' w',(Builtin.append_ #[t,t] ty #[v,.slice A m c]).run P w=.ok v' w'∧w'.ownsRow base e size v' (n+m) (xs++news)∧w.grownBy w' v.ownBlock ∧
   (v'.ownBlock=v.ownBlock∨v'.ownBlock=some w.heap.size):=by
 rcases A with _|ad
 ·have hm:m=0:=by
   rcases Nat.eq_zero_or_pos m with h0|h0
   ·exact h0
   ·obtain⟨_,_,e,_⟩:=hr.at_ h0
    cases e
  subst hm
  have hn:news=[]:=List.eq_nil_of_length_eq_zero (by have:=hr.len;omega)
  subst hn
  refine⟨v,w,?_,by simpa using hown,World.grownBy.refl w _,.inl rfl⟩
  rcases hown.2 with ⟨rfl,rfl⟩|⟨g,cap,cur,rfl,_,_,hnc,_⟩
  ·simp[Builtin.append_,run_underlying ht,sizeOf,typeInfo,hi,Builtin.lenOf,Builtin.firstCells]
  ·simp[Builtin.append_,run_underlying ht,sizeOf,typeInfo,hi,Builtin.lenOf,Builtin.firstCells,hnc,storeCells]
 ·have hcells:∀ j u,news[j]? = some u→w.cell? (ad.add j)=some u:=by
   intro j u hu
   rcases Nat.eq_zero_or_pos m with h0|h0
   ·subst h0
    have hn:news=[]:=List.eq_nil_of_length_eq_zero (by have:=hr.len;omega)
    subst hn
    simp at hu
   ·obtain⟨b,o,h,_,hc⟩:=hr.at_ h0
    injection h with h
    subst h
    rw[← hc j u hu]
    congr 1
    unfold Addr.add
    split<;>simp_all
  obtain⟨v',w',hrun,h2,h3,_,h5⟩:=run_append_own_at (P:=P) w base t ty e i z size bytes ht hi hz hsize hby hzs hsz v n xs hown ad m c news hr.len hcells h1 h63 hbytes hbase
  exact⟨v',w',hrun,h2,h3,h5⟩
theorem wpList_append_sl {P:Program}{w:World}{ops:Array Oper}{rest:List Oper}{o:Oper}{a:Act}{Q:Exit→Act→World→Prop}(hgd:o.guard=none)(s x:Operand)(t:TypeId)
  (ho:o.op=.call { callee:=.builtin .append,args:=#[s,x],argTypes:=#[t,t] })
  (base:Nat) (e:TypeId) (z:Value) (size bytes:Nat) (ht:P.underlying t=some (.slice e)) (hinfo:(P.info? e).map (fun i=>(i.zero,i.size,i.bytes))=some (some z,size,bytes))
  (hzs:z.cells.size=size) (hsz:0<size)
  {v:Value} {n:Nat} {xs:List Value} (hs:a.eval s=v) (hown:w.ownsRow base e size v n xs)
  {A:Option Addr} {m c:Nat} {news:List Value} (hx:a.eval x=.slice A m c) (hr:Sl w size A m c news) (h1:∀ u∈news,u.oneCell'=true)
  (h63:n+m≤maxLen) (hbytes:(n+m) * bytes≤140737488355328) (hbase:base≤w.heap.size)
  (h:∀ v' w',w'.ownsRow base e size v' (n+m) (xs++news)→w.grownBy w' v.ownBlock→(v'.ownBlock=v.ownBlock∨v'.ownBlock=some w.heap.size)→wpList P ops Q rest (a.put o.dst v') w') :
  wpList P ops Q (o::rest) a w:=by
 obtain⟨i,hi,hz,hsize,hby⟩:=info_parts hinfo
 refine wpList_plain hgd fun K hK=>?_
 obtain⟨v',w',hr',h2,h3,h5⟩:=run_append_sl (P:=P) w base t o.type e i z size bytes ht hi hz hsize hby hzs hsz v n xs hown A m c news hr h1 h63 hbytes hbase
 unfold Oper.wp execOp
 simp only[ho,resolve,invoke,builtin,Sem.run_bind,Sem.run_pure,Result.andThen_ok,List.map_toArray,List.map_cons,List.map_nil,hs,hx,hr']
 exact hK _ _ (h v' w' h2 h3 h5)
theorem Sl.fresh {w:World} (cs:Array Value) (t:TypeId) (fr:Nat × Nat) (size n c:Nat) (hl:cs.size=n * size) (hnc:n≤c) (hc:c≤maxLen):Sl (w.alloc (.cells cs t fr)) size (some ⟨w.heap.size,0,none⟩) n c cs.toList :=
  ⟨by simpa using hl,hnc,hc,fun _=>⟨w.heap.size,0,rfl,by simp,fun j u hu=>by
    have hh:(w.alloc (.cells cs t fr)).heap[w.heap.size]? = some (.cells cs t fr):=by
      show (w.heap.push _)[w.heap.size]? = _
      simp
    simp only [World.cell?,hh]
    simpa using hu⟩⟩
end Go.Proofs.YthjmjoioagocdaaGreatDoor
end
section
namespace Go.Proofs.YthjmjoioagocdaaGreatDoor
def scaleOk (k:Int):Bool:=decide (0≤k)&&decide (k≤6)
def right (x:Val):Bool :=
 if x.kind=0 then decide (x.n=0∧x.scale=0∧x.s=[])
 else if x.kind=1 then decide ((x.n=0∨x.n=1)∧x.scale=0∧x.s=[])
 else if x.kind=2 then decide (x.scale=0∧x.s=[])
 else if x.kind=3 then decide (x.s=[]∧0≤x.scale∧x.scale≤6)
 else if x.kind=4 then decide (x.n=0∧x.scale=0∧x.s.length≤200)&&Lib.validD x.s
 else if x.kind=5 then decide (x.n=0∧x.scale=0∧x.s.length≤200)
 else false
def vnull:Val:=⟨0,0,0,[]⟩
def plain (x:Val):Val:=if right x then x else vnull
theorem right_null:right vnull=true:=by decide
theorem right_plain (x:Val):right (plain x)=true:=by
 unfold plain
 split
 ·assumption
 ·exact right_null
theorem plain_right {x:Val}(h:right x=true):plain x=x:=if_pos h
def cont (d:UInt8):Prop:=128≤d.toNat∧d.toNat≤191
instance (d:UInt8):Decidable (cont d):=inferInstanceAs (Decidable (_∧_))
def spell (x0:Int)(t:List UInt8)(m:Nat):Int:=(t.take m).foldl (fun x d=>64 * x+(d.toNat:Int)-128) x0
def badRune (least x:Int):Prop:=x<least∨1114111<x∨(55296≤x∧x<57344)
instance (least x:Int):Decidable (badRune least x):=inferInstanceAs (Decidable (_∨_))
theorem spell_zero (x0:Int)(t:List UInt8):spell x0 t 0=x0:=by simp[spell]
theorem spell_succ (x0:Int)(t:List UInt8)(m:Nat)(d:UInt8)(h:t[m]? = some d):spell x0 t (m+1)=64 * spell x0 t m+(d.toNat:Int)-128:=by
 have hm:m<t.length:=by
  rcases Nat.lt_or_ge m t.length with h' | h'
  ·exact h'
  ·rw[List.getElem?_eq_none h'] at h;cases h
 have hd:t[m]=d:=by rw[List.getElem?_eq_getElem hm] at h;injection h
 unfold spell
 rw[List.take_succ_eq_append_getElem hm,List.foldl_append,hd]
 rfl
theorem validD_of_decode {l:List UInt8}(hne:l≠[]){p:Prop}[Decidable p]{x m:Nat}(hx:¬ p→x≠65533∨2≤m)(h:Lib.decodeL l=if p then (65533,1) else (x,m)) :
  Lib.validD l=if p then false else Lib.validD (l.drop m):=by
 rw[Lib.validD_step _ hne,h]
 by_cases hp:p
 ·simp[hp]
 ·have:=hx hp
  rw[if_neg hp,if_neg hp,if_neg (by simp only;omega)]
theorem spell1 (x0:Int)(d1:UInt8)(t:List UInt8):spell x0 (d1::t) 1=64 * x0+(d1.toNat:Int)-128:=by simp[spell]
theorem spell2 (x0:Int)(d1 d2:UInt8)(t:List UInt8):spell x0 (d1::d2::t) 2=64 * (64 * x0+(d1.toNat:Int)-128)+(d2.toNat:Int)-128:=by simp[spell]
theorem spell3 (x0:Int)(d1 d2 d3:UInt8)(t:List UInt8):spell x0 (d1::d2::d3::t) 3=64 * (64 * (64 * x0+(d1.toNat:Int)-128)+(d2.toNat:Int)-128)+(d3.toNat:Int)-128:=by simp[spell]
theorem spell_bound {x0:Int}(h0:0≤x0)(h1:x0<32)(t:List UInt8)(m:Nat)(hm:m≤3)(hall:∀ i d,i<m→t[i]? = some d→cont d):0≤spell x0 t m∧spell x0 t m<4294967296:=by
 have go : ∀ m,(∀ i d,i<m→t[i]? = some d→cont d)→0≤spell x0 t m∧spell x0 t m<32 * 64^m:=by
  intro m
  induction m with
  |zero=>intro _;rw[spell_zero];omega
  |succ m ih =>
   intro hall
   have:=ih (fun i d hi hd=>hall i d (by omega) hd)
   rcases hg:t[m]? with _|d
   ·have:spell x0 t (m+1)=spell x0 t m:=by
     unfold spell
     rw[List.getElem?_eq_none_iff] at hg
     rw[List.take_of_length_le (by omega),List.take_of_length_le hg]
    rw[this,Int.pow_succ]
    omega
   ·have hc:=hall m d (by omega) hg
    unfold cont at hc
    rw[spell_succ _ _ _ _ hg,Int.pow_succ]
    omega
 have:=go m hall
 have h3:m=0∨m=1∨m=2∨m=3:=by omega
 rcases h3 with rfl|rfl|rfl|rfl<;>simp only[Int.reducePow,Int.reduceMul] at this<;>omega
structure Lead (c:UInt8)(n:Nat)(least x0:Int):Prop where
 cases_:(n=1∧least=128∧x0=c.toNat-192∧192≤c.toNat∧c.toNat<224)∨(n=2∧least=2048∧x0=c.toNat-224∧224≤c.toNat∧c.toNat<240) ∨
  (n=3∧least=65536∧x0=c.toNat-240∧240≤c.toNat∧c.toNat<248)
theorem decode_bad {c:UInt8}{t:List UInt8}(hc:128≤c.toNat)(h:Lib.decodeL (c::t)=(65533,1)):Lib.validD (c::t)=false:=by
 rw[Lib.validD_step _ (by simp),h];simp
theorem utf_wrong {c:UInt8}(t:List UInt8)(h:(128≤c.toNat∧c.toNat<192)∨248≤c.toNat):Lib.validD (c::t)=false:=by
 have hc:=c.toNat_lt
 refine decode_bad (by omega) ?_
 rw[Lib.decodeL_N]
 simp only[List.getD_cons_zero]
 exact Lib.decodeN_bad _ _ _ _ _ (by omega)
theorem utf_short {c:UInt8}{t:List UInt8}{n:Nat}{least x0:Int}(h:Lead c n least x0)(ht:t.length<n):Lib.validD (c::t)=false:=by
 refine decode_bad (by have:=h.cases_;omega) ?_
 rw[Lib.decodeL_N]
 simp only[List.getD_cons_zero,List.length_cons]
 unfold Lib.decodeN
 rcases h.cases_ with ⟨rfl,_,_,h1,h2⟩|⟨rfl,_,_,h1,h2⟩|⟨rfl,_,_,h1,h2⟩<;>(repeat' split)<;>first|(exfalso;omega)|rfl
theorem utf_stray {c:UInt8}{t:List UInt8}{n:Nat}{least x0:Int}(h:Lead c n least x0){i:Nat}(hi:i<n){d:UInt8}(hd:t[i]? = some d)(hc:¬ cont d):Lib.validD (c::t)=false:=by
 refine decode_bad (by have:=h.cases_;omega) ?_
 rw[Lib.decodeL_N]
 have hg:(c::t).getD (i+1) 0=d:=by simp[List.getD,hd]
 have hdl:=d.toNat_lt
 have hq:d.toNat/64≠2:=by unfold cont at hc;omega
 have e0:(c::t).getD 0 0=c:=rfl
 rw[e0]
 unfold Lib.decodeN
 have hcl:=h.cases_
 rcases i with _|_|_|i
 ·simp only[Nat.zero_add] at hg
  rw[hg]
  (repeat' split)<;>first|(exfalso;omega)|rfl
 ·simp only[Nat.zero_add,Nat.reduceAdd] at hg
  rw[hg]
  (repeat' split)<;>first|(exfalso;omega)|rfl
 ·simp only[Nat.zero_add,Nat.reduceAdd] at hg
  rw[hg]
  (repeat' split)<;>first|(exfalso;omega)|rfl
 ·omega
theorem utf_step {c:UInt8}{t:List UInt8}{n:Nat}{least x0:Int}(h:Lead c n least x0)(ht:n≤t.length)(hall:∀ i d,i<n→t[i]? = some d→cont d) :
  Lib.validD (c::t)=if badRune least (spell x0 t n) then false else Lib.validD (t.drop n):=by
 have hcl:=c.toNat_lt
 rcases h.cases_ with ⟨rfl,rfl,rfl,h1,h2⟩|⟨rfl,rfl,rfl,h1,h2⟩|⟨rfl,rfl,rfl,h1,h2⟩
 ·match t,ht with
  |d1::t,_ =>
   have c1:cont d1:=hall 0 d1 (by omega) rfl
   unfold cont at c1
   rw[spell1]
   refine (validD_of_decode (p:=badRune 128 (64 * ((c.toNat:Int)-192)+(d1.toNat:Int)-128)) (x:=c.toNat%32 * 64+d1.toNat%64) (m:=2) (by simp) (by omega) ?_)
   rw[Lib.decodeL_N]
   simp only[List.getD_cons_zero,List.getD_cons_succ,List.length_cons]
   split<;>rename_i hp<;>unfold badRune at hp<;>unfold Lib.decodeN<;>(repeat' split)<;>first|(exfalso;omega)|rfl
 ·match t,ht with
  |d1::d2::t,_ =>
   have c1:cont d1:=hall 0 d1 (by omega) rfl
   have c2:cont d2:=hall 1 d2 (by omega) rfl
   unfold cont at c1 c2
   rw[spell2]
   refine (validD_of_decode (p:=badRune 2048 (64 * (64 * ((c.toNat:Int)-224)+(d1.toNat:Int)-128)+(d2.toNat:Int)-128)) (x:=c.toNat%16 * 4096+d1.toNat%64 * 64+d2.toNat%64) (m:=3) (by simp) (by omega) ?_)
   rw[Lib.decodeL_N]
   simp only[List.getD_cons_zero,List.getD_cons_succ,List.length_cons]
   split<;>rename_i hp<;>unfold badRune at hp<;>unfold Lib.decodeN<;>(repeat' split)<;>first|(exfalso;omega)|rfl
 ·match t,ht with
  |d1::d2::d3::t,_ =>
   have c1:cont d1:=hall 0 d1 (by omega) rfl
   have c2:cont d2:=hall 1 d2 (by omega) rfl
   have c3:cont d3:=hall 2 d3 (by omega) rfl
   unfold cont at c1 c2 c3
   rw[spell3]
   refine (validD_of_decode (p:=badRune 65536 (64 * (64 * (64 * ((c.toNat:Int)-240)+(d1.toNat:Int)-128)+(d2.toNat:Int)-128)+(d3.toNat:Int)-128)) (x:=c.toNat%8 * 262144+d1.toNat%64 * 4096+d2.toNat%64 * 64+d3.toNat%64) (m:=4) (by simp) (by omega) ?_)
   rw[Lib.decodeL_N]
   simp only[List.getD_cons_zero,List.getD_cons_succ,List.length_cons]
   split<;>rename_i hp<;>unfold badRune at hp<;>unfold Lib.decodeN<;>(repeat' split)<;>first|(exfalso;omega)|rfl
end Go.Proofs.YthjmjoioagocdaaGreatDoor
end
section
namespace Go.Proofs.YthjmjoioagocdaaGreatDoor
open Go.RowKit
theorem byteAt {l:List UInt8}{k:Nat}{c:UInt8}(hc:l[k]? = some c):∀ h:k<(⟨l.toArray⟩:ByteArray).size,(⟨l.toArray⟩:ByteArray)[k]'h=c:=by
 intro h
 have hk:k<l.length:=h
 rw[List.getElem?_eq_getElem hk] at hc
 injection hc
set_option maxRecDepth 100000 in
set_option maxHeartbeats 8000000 in
theorem utf_any (l:List UInt8) (w:World) (hl:l.length≤9223372036854775807):Calls Tryz.prog 74 #[.string ⟨l.toArray⟩] w fun e w'=>e=.returned (.bool (Lib.validD l))∧w=w':=by
 obtain⟨ANS,hA⟩:∃ b,Lib.validD l=b:=⟨_,rfl⟩
 rw[hA]
 have HA:=hide hA
 clear hA
 go_enter Tryz.func74,Tryz.ntmps74
 go_wp2_with fail
 go_loop [3] (fun i=>∃ k:Nat,k≤l.length∧i=.int .i64 k∧Hid (Lib.validD (l.drop k)=ANS)) (fun i=>l.length-(intOf i).toNat)
 case atStart=>exact⟨0,by omega,rfl,HA⟩
 case round =>
  obtain⟨k,hk,rfl,hv⟩:=hrel
  by_cases hlt:k<l.length
  ·obtain⟨c,hc⟩:∃ c,l[k]? = some c:=⟨l[k],by simp⟩
   have hbyte:=byteAt hc
   have hd:l.drop k=c::l.drop (k+1):=by
    rw[List.drop_eq_getElem_cons hlt]
    congr 1
    rw[List.getElem?_eq_getElem hlt] at hc;injection hc
   have htl:(l.drop (k+1)).length+(k+1)=l.length:=by rw[List.length_drop];omega
   rw[hd] at hv
   have HT:=hide htl
   clear hc hd htl HA
   have hlt':(k:Int)<(l.length:Int):=by omega
   have hcl:=c.toNat_lt
   have b0:(0:Int)≤(c.toNat:Int):=by omega
   have b1:(c.toNat:Int)<256:=by omega
   by_cases h1:c.toNat<128
   ·have g1:(c.toNat:Int)<128:=by omega
    go_wp2_with fail
    go_loop [7,8] (fun x m=>x=.int .i64 (c.toNat:Int)∧m=.int .i64 1) (fun _ m=>1-(intOf m).toNat)
    case atStart=>exact⟨rfl,rfl⟩
    case round =>
     obtain⟨rfl,rfl⟩:=hrel
     go_wp2_with fail
     go_round
     case rel=>exact⟨k+1,by omega,by go_num,by
      have:=unhide hv
      rw[Lib.validD_cons c _ h1] at this
      exact this⟩
     case measure=>exact (by first|(simp[intOf];done)|(simp[intOf];omega))
   by_cases h2:248≤c.toNat
   ·have g1:(248:Int)≤(c.toNat:Int):=by omega
    go_wp2_with fail
    go_ret
    exact⟨by rw[← unhide hv,utf_wrong _ (by omega)];rfl,rfl⟩
   by_cases h3:c.toNat<192
   ·have g1:(c.toNat:Int)<192:=by omega
    have g2:(128:Int)≤(c.toNat:Int):=by omega
    go_wp2_with fail
    go_ret
    exact⟨by rw[← unhide hv,utf_wrong _ (by omega)];rfl,rfl⟩
   by_cases h41:c.toNat<224
   ·have g1 : (192:Int)≤(c.toNat:Int):=by omega
    have g2:(c.toNat:Int)<224:=by omega
    have hL:Hid (Lead c 1 128 ((c.toNat:Int)-192)):=hide ⟨by omega⟩
    by_cases h5:(l.drop (k+1)).length<1
    ·have g3:(l.length:Int)-1-(k:Int)<1:=by have:=unhide HT;omega
     go_wp2_with fail
     go_ret
     exact⟨by rw[← unhide hv,utf_short (unhide hL) h5];rfl,rfl⟩
    ·have g3 : (1:Int)≤(l.length:Int)-1-(k:Int):=by have:=unhide HT;omega
     obtain⟨S,hS⟩:∃ S:Nat→Int,S=spell ((c.toNat:Int)-192) (l.drop (k+1)):=⟨_,rfl⟩
     have HS:=hide hS
     have s0:S 0=(c.toNat:Int)-192:=by rw[hS,spell_zero]
     have HS0:=hide s0
     have hSb:∀ j,j≤1→Hid (∀ i d,i<j→(l.drop (k+1))[i]? = some d→cont d)→0≤S j∧S j<4294967296:=by
      intro j hj hall
      rw[hS]
      exact spell_bound (by omega) (by omega) _ j (by omega) (unhide hall)
     clear hS s0
     go_wp2_with fail
     go_loop [7,8] (fun x m=>∃ j:Nat,j≤1∧m=.int .i64 ((j:Int)+1)∧x=.int .i64 (S j)∧Hid (∀ i d,i<j→(l.drop (k+1))[i]? = some d→cont d)) (fun _ m=>1+1-(intOf m).toNat)
     case atStart=>exact⟨0,by omega,rfl,by rw[unhide HS0],hide (fun i d h=>absurd h (by omega))⟩
     case round =>
      obtain⟨j,hj,rfl,rfl,hall⟩:=hrel
      have hb:=hSb j hj hall
      obtain⟨sb0,sb1⟩:=hb
      by_cases hjn:j<1
      ·have hjn':(j:Int)+1≤1:=by omega
       obtain⟨d,hd⟩:∃ d,(l.drop (k+1))[j]? = some d:=⟨(l.drop (k+1))[j]'(by omega),by simp⟩
       have hdb:∀ h:(k+(j+1))<(⟨l.toArray⟩:ByteArray).size,(⟨l.toArray⟩:ByteArray)[k+(j+1)]'h=d:=byteAt (by rw[List.getElem?_drop] at hd;rw[← hd];congr 1;omega)
       have HDD:=hide hd
       have hdl:=d.toNat_lt
       have d0:(0:Int)≤(d.toNat:Int):=by omega
       have d1:(d.toNat:Int)<256:=by omega
       have d2:(k:Int)+((j:Int)+1)<l.length:=by omega
       clear hd
       by_cases hcn:cont d
       ·unfold cont at hcn
        obtain⟨c1,c2⟩:=hcn
        have c1':(128:Int)≤(d.toNat:Int):=by omega
        have c2':(d.toNat:Int)≤191:=by omega
        have hsx:S (j+1)=64 * S j+(d.toNat:Int)-128:=by rw[unhide HS,spell_succ _ _ _ _ (unhide HDD)]
        have HSX:=hide hsx
        clear hsx
        go_wp2_with fail
        go_round
        case rel=>exact⟨j+1,by omega,by go_num,by rw[unhide HSX],hide (fun i e hi he=>by
         by_cases hij:i=j
         ·subst hij
          rw[unhide HDD] at he
          injection he with he
          subst he
          exact⟨by omega,by omega⟩
         ·exact unhide hall i e (by omega) he)⟩
        case measure=>exact (by first|(simp[intOf];done)|(simp[intOf];omega))
       ·have hstray:=utf_stray (unhide hL) hjn (unhide HDD) hcn
        have hend:ANS=false:=by rw[← unhide hv,hstray]
        subst hend
        clear hstray hv
        by_cases hd1:d.toNat<128
        ·have c1':(d.toNat:Int)<128:=by omega
         go_wp2_with fail
         go_ret
         exact⟨rfl,rfl⟩
        ·have c0':(128:Int)≤(d.toNat:Int):=by omega
         have c1':(191:Int)<(d.toNat:Int):=by unfold cont at hcn;omega
         go_wp2_with fail
         go_ret
         exact⟨rfl,rfl⟩
      ·obtain rfl:j=1:=by omega
       have hstep:=utf_step (unhide hL) (by omega) (unhide hall)
       rw[← unhide HS,unhide hv] at hstep
       have hrest:1+(k+1)≤l.length:=by have:=unhide HT;omega
       have HR:=hide hstep
       clear hstep hall hv
       generalize hy:S 1=y at HR sb0 sb1 ⊢
       clear hy HS HS0 hSb
       by_cases e1:y<128
       ·have hend:ANS=false:=by have:=unhide HR;rw[if_pos (.inl e1)] at this;exact this
        subst hend
        go_wp2_with fail
        go_ret
        exact⟨rfl,rfl⟩
       by_cases e2:1114111<y
       ·have hend:ANS=false:=by have:=unhide HR;rw[if_pos (.inr (.inl e2))] at this;exact this
        subst hend
        have e1':(128:Int)≤y:=by omega
        go_wp2_with fail
        go_ret
        exact⟨rfl,rfl⟩
       by_cases e3:55296≤y∧y<57344
       ·have hend:ANS=false:=by have:=unhide HR;rw[if_pos (.inr (.inr e3))] at this;exact this
        subst hend
        have e1':(128:Int)≤y:=by omega
        have e2':y≤(1114111:Int):=by omega
        obtain⟨e3,e4⟩:=e3
        go_wp2_with fail
        go_ret
        exact⟨rfl,rfl⟩
       have hgo:Hid (Lib.validD (l.drop (k+(1+1)))=ANS):=by
        have:=unhide HR
        rw[if_neg (by unfold badRune;omega),List.drop_drop] at this
        rw[this]
        congr 2<;>omega
       clear HR
       have e1':(128:Int)≤y:=by omega
       have e2':y≤(1114111:Int):=by omega
       by_cases e4:55296≤y
       ·have e5:(57344:Int)≤y:=by omega
        clear e3
        go_wp2_with fail
        go_round
        case rel=>exact⟨k+(1+1),by omega,by go_num,hgo⟩
        case measure=>exact (by first|(simp[intOf];done)|(simp[intOf];omega))
       ·have e5:y<55296:=by omega
        clear e3 e4
        go_wp2_with fail
        go_round
        case rel=>exact⟨k+(1+1),by omega,by go_num,hgo⟩
        case measure=>exact (by first|(simp[intOf];done)|(simp[intOf];omega))
   by_cases h42:c.toNat<240
   ·have g1 : (224:Int)≤(c.toNat:Int):=by omega
    have g2:(c.toNat:Int)<240:=by omega
    have hL:Hid (Lead c 2 2048 ((c.toNat:Int)-224)):=hide ⟨by omega⟩
    by_cases h5:(l.drop (k+1)).length<2
    ·have g3:(l.length:Int)-1-(k:Int)<2:=by have:=unhide HT;omega
     go_wp2_with fail
     go_ret
     exact⟨by rw[← unhide hv,utf_short (unhide hL) h5];rfl,rfl⟩
    ·have g3 : (2:Int)≤(l.length:Int)-1-(k:Int):=by have:=unhide HT;omega
     obtain⟨S,hS⟩:∃ S:Nat→Int,S=spell ((c.toNat:Int)-224) (l.drop (k+1)):=⟨_,rfl⟩
     have HS:=hide hS
     have s0:S 0=(c.toNat:Int)-224:=by rw[hS,spell_zero]
     have HS0:=hide s0
     have hSb:∀ j,j≤2→Hid (∀ i d,i<j→(l.drop (k+1))[i]? = some d→cont d)→0≤S j∧S j<4294967296:=by
      intro j hj hall
      rw[hS]
      exact spell_bound (by omega) (by omega) _ j (by omega) (unhide hall)
     clear hS s0
     go_wp2_with fail
     go_loop [7,8] (fun x m=>∃ j:Nat,j≤2∧m=.int .i64 ((j:Int)+1)∧x=.int .i64 (S j)∧Hid (∀ i d,i<j→(l.drop (k+1))[i]? = some d→cont d)) (fun _ m=>2+1-(intOf m).toNat)
     case atStart=>exact⟨0,by omega,rfl,by rw[unhide HS0],hide (fun i d h=>absurd h (by omega))⟩
     case round =>
      obtain⟨j,hj,rfl,rfl,hall⟩:=hrel
      have hb:=hSb j hj hall
      obtain⟨sb0,sb1⟩:=hb
      by_cases hjn:j<2
      ·have hjn':(j:Int)+1≤2:=by omega
       obtain⟨d,hd⟩:∃ d,(l.drop (k+1))[j]? = some d:=⟨(l.drop (k+1))[j]'(by omega),by simp⟩
       have hdb:∀ h:(k+(j+1))<(⟨l.toArray⟩:ByteArray).size,(⟨l.toArray⟩:ByteArray)[k+(j+1)]'h=d:=byteAt (by rw[List.getElem?_drop] at hd;rw[← hd];congr 1;omega)
       have HDD:=hide hd
       have hdl:=d.toNat_lt
       have d0:(0:Int)≤(d.toNat:Int):=by omega
       have d1:(d.toNat:Int)<256:=by omega
       have d2:(k:Int)+((j:Int)+1)<l.length:=by omega
       clear hd
       by_cases hcn:cont d
       ·unfold cont at hcn
        obtain⟨c1,c2⟩:=hcn
        have c1':(128:Int)≤(d.toNat:Int):=by omega
        have c2':(d.toNat:Int)≤191:=by omega
        have hsx:S (j+1)=64 * S j+(d.toNat:Int)-128:=by rw[unhide HS,spell_succ _ _ _ _ (unhide HDD)]
        have HSX:=hide hsx
        clear hsx
        go_wp2_with fail
        go_round
        case rel=>exact⟨j+1,by omega,by go_num,by rw[unhide HSX],hide (fun i e hi he=>by
         by_cases hij:i=j
         ·subst hij
          rw[unhide HDD] at he
          injection he with he
          subst he
          exact⟨by omega,by omega⟩
         ·exact unhide hall i e (by omega) he)⟩
        case measure=>exact (by first|(simp[intOf];done)|(simp[intOf];omega))
       ·have hstray:=utf_stray (unhide hL) hjn (unhide HDD) hcn
        have hend:ANS=false:=by rw[← unhide hv,hstray]
        subst hend
        clear hstray hv
        by_cases hd1:d.toNat<128
        ·have c1':(d.toNat:Int)<128:=by omega
         go_wp2_with fail
         go_ret
         exact⟨rfl,rfl⟩
        ·have c0':(128:Int)≤(d.toNat:Int):=by omega
         have c1':(191:Int)<(d.toNat:Int):=by unfold cont at hcn;omega
         go_wp2_with fail
         go_ret
         exact⟨rfl,rfl⟩
      ·obtain rfl:j=2:=by omega
       have hstep:=utf_step (unhide hL) (by omega) (unhide hall)
       rw[← unhide HS,unhide hv] at hstep
       have hrest:2+(k+1)≤l.length:=by have:=unhide HT;omega
       have HR:=hide hstep
       clear hstep hall hv
       generalize hy:S 2=y at HR sb0 sb1 ⊢
       clear hy HS HS0 hSb
       by_cases e1:y<2048
       ·have hend:ANS=false:=by have:=unhide HR;rw[if_pos (.inl e1)] at this;exact this
        subst hend
        go_wp2_with fail
        go_ret
        exact⟨rfl,rfl⟩
       by_cases e2:1114111<y
       ·have hend:ANS=false:=by have:=unhide HR;rw[if_pos (.inr (.inl e2))] at this;exact this
        subst hend
        have e1':(2048:Int)≤y:=by omega
        go_wp2_with fail
        go_ret
        exact⟨rfl,rfl⟩
       by_cases e3:55296≤y∧y<57344
       ·have hend:ANS=false:=by have:=unhide HR;rw[if_pos (.inr (.inr e3))] at this;exact this
        subst hend
        have e1':(2048:Int)≤y:=by omega
        have e2':y≤(1114111:Int):=by omega
        obtain⟨e3,e4⟩:=e3
        go_wp2_with fail
        go_ret
        exact⟨rfl,rfl⟩
       have hgo:Hid (Lib.validD (l.drop (k+(1+2)))=ANS):=by
        have:=unhide HR
        rw[if_neg (by unfold badRune;omega),List.drop_drop] at this
        rw[this]
        congr 2<;>omega
       clear HR
       have e1':(2048:Int)≤y:=by omega
       have e2':y≤(1114111:Int):=by omega
       by_cases e4:55296≤y
       ·have e5:(57344:Int)≤y:=by omega
        clear e3
        go_wp2_with fail
        go_round
        case rel=>exact⟨k+(1+2),by omega,by go_num,hgo⟩
        case measure=>exact (by first|(simp[intOf];done)|(simp[intOf];omega))
       ·have e5:y<55296:=by omega
        clear e3 e4
        go_wp2_with fail
        go_round
        case rel=>exact⟨k+(1+2),by omega,by go_num,hgo⟩
        case measure=>exact (by first|(simp[intOf];done)|(simp[intOf];omega))
   have g1:(240:Int)≤(c.toNat:Int):=by omega
   have g2:(c.toNat:Int)<248:=by omega
   have hL:Hid (Lead c 3 65536 ((c.toNat:Int)-240)):=hide ⟨by omega⟩
   by_cases h5:(l.drop (k+1)).length<3
   ·have g3:(l.length:Int)-1-(k:Int)<3:=by have:=unhide HT;omega
    go_wp2_with fail
    go_ret
    exact⟨by rw[← unhide hv,utf_short (unhide hL) h5];rfl,rfl⟩
   ·have g3 : (3:Int)≤(l.length:Int)-1-(k:Int):=by have:=unhide HT;omega
    obtain⟨S,hS⟩:∃ S:Nat→Int,S=spell ((c.toNat:Int)-240) (l.drop (k+1)):=⟨_,rfl⟩
    have HS:=hide hS
    have s0:S 0=(c.toNat:Int)-240:=by rw[hS,spell_zero]
    have HS0:=hide s0
    have hSb:∀ j,j≤3→Hid (∀ i d,i<j→(l.drop (k+1))[i]? = some d→cont d)→0≤S j∧S j<4294967296:=by
     intro j hj hall
     rw[hS]
     exact spell_bound (by omega) (by omega) _ j (by omega) (unhide hall)
    clear hS s0
    go_wp2_with fail
    go_loop [7,8] (fun x m=>∃ j:Nat,j≤3∧m=.int .i64 ((j:Int)+1)∧x=.int .i64 (S j)∧Hid (∀ i d,i<j→(l.drop (k+1))[i]? = some d→cont d)) (fun _ m=>3+1-(intOf m).toNat)
    case atStart=>exact⟨0,by omega,rfl,by rw[unhide HS0],hide (fun i d h=>absurd h (by omega))⟩
    case round =>
     obtain⟨j,hj,rfl,rfl,hall⟩:=hrel
     have hb:=hSb j hj hall
     obtain⟨sb0,sb1⟩:=hb
     by_cases hjn:j<3
     ·have hjn':(j:Int)+1≤3:=by omega
      obtain⟨d,hd⟩:∃ d,(l.drop (k+1))[j]? = some d:=⟨(l.drop (k+1))[j]'(by omega),by simp⟩
      have hdb:∀ h:(k+(j+1))<(⟨l.toArray⟩:ByteArray).size,(⟨l.toArray⟩:ByteArray)[k+(j+1)]'h=d:=byteAt (by rw[List.getElem?_drop] at hd;rw[← hd];congr 1;omega)
      have HDD:=hide hd
      have hdl:=d.toNat_lt
      have d0:(0:Int)≤(d.toNat:Int):=by omega
      have d1:(d.toNat:Int)<256:=by omega
      have d2:(k:Int)+((j:Int)+1)<l.length:=by omega
      clear hd
      by_cases hcn:cont d
      ·unfold cont at hcn
       obtain⟨c1,c2⟩:=hcn
       have c1':(128:Int)≤(d.toNat:Int):=by omega
       have c2':(d.toNat:Int)≤191:=by omega
       have hsx:S (j+1)=64 * S j+(d.toNat:Int)-128:=by rw[unhide HS,spell_succ _ _ _ _ (unhide HDD)]
       have HSX:=hide hsx
       clear hsx
       go_wp2_with fail
       go_round
       case rel=>exact⟨j+1,by omega,by go_num,by rw[unhide HSX],hide (fun i e hi he=>by
        by_cases hij:i=j
        ·subst hij
         rw[unhide HDD] at he
         injection he with he
         subst he
         exact⟨by omega,by omega⟩
        ·exact unhide hall i e (by omega) he)⟩
       case measure=>exact (by first|(simp[intOf];done)|(simp[intOf];omega))
      ·have hstray:=utf_stray (unhide hL) hjn (unhide HDD) hcn
       have hend:ANS=false:=by rw[← unhide hv,hstray]
       subst hend
       clear hstray hv
       by_cases hd1:d.toNat<128
       ·have c1':(d.toNat:Int)<128:=by omega
        go_wp2_with fail
        go_ret
        exact⟨rfl,rfl⟩
       ·have c0':(128:Int)≤(d.toNat:Int):=by omega
        have c1':(191:Int)<(d.toNat:Int):=by unfold cont at hcn;omega
        go_wp2_with fail
        go_ret
        exact⟨rfl,rfl⟩
     ·obtain rfl:j=3:=by omega
      have hstep:=utf_step (unhide hL) (by omega) (unhide hall)
      rw[← unhide HS,unhide hv] at hstep
      have hrest:3+(k+1)≤l.length:=by have:=unhide HT;omega
      have HR:=hide hstep
      clear hstep hall hv
      generalize hy:S 3=y at HR sb0 sb1 ⊢
      clear hy HS HS0 hSb
      by_cases e1:y<65536
      ·have hend:ANS=false:=by have:=unhide HR;rw[if_pos (.inl e1)] at this;exact this
       subst hend
       go_wp2_with fail
       go_ret
       exact⟨rfl,rfl⟩
      by_cases e2:1114111<y
      ·have hend:ANS=false:=by have:=unhide HR;rw[if_pos (.inr (.inl e2))] at this;exact this
       subst hend
       have e1':(65536:Int)≤y:=by omega
       go_wp2_with fail
       go_ret
       exact⟨rfl,rfl⟩
      by_cases e3:55296≤y∧y<57344
      ·have hend:ANS=false:=by have:=unhide HR;rw[if_pos (.inr (.inr e3))] at this;exact this
       subst hend
       have e1':(65536:Int)≤y:=by omega
       have e2':y≤(1114111:Int):=by omega
       obtain⟨e3,e4⟩:=e3
       go_wp2_with fail
       go_ret
       exact⟨rfl,rfl⟩
      have hgo:Hid (Lib.validD (l.drop (k+(1+3)))=ANS):=by
       have:=unhide HR
       rw[if_neg (by unfold badRune;omega),List.drop_drop] at this
       rw[this]
       congr 2<;>omega
      clear HR
      have e1':(65536:Int)≤y:=by omega
      have e2':y≤(1114111:Int):=by omega
      by_cases e4:55296≤y
      ·have e5:(57344:Int)≤y:=by omega
       clear e3
       go_wp2_with fail
       go_round
       case rel=>exact⟨k+(1+3),by omega,by go_num,hgo⟩
       case measure=>exact (by first|(simp[intOf];done)|(simp[intOf];omega))
      ·exfalso;omega
  ·have hlt':(l.length:Int)≤(k:Int):=by omega
   have hk':k=l.length:=by omega
   subst hk'
   have:Lib.validD (l.drop l.length)=true:=by rw[List.drop_length];rfl
   have hend:ANS=true:=by rw[← unhide hv,this]
   subst hend
   clear this hv
   go_wp2_with fail
   go_ret
   exact⟨rfl,rfl⟩
end Go.Proofs.YthjmjoioagocdaaGreatDoor
end
section
namespace Go.Proofs.YthjmjoioagocdaaGreatDoor
open Go.RowKit Go.Shelf
def u8ren:Ren :=
 {f:=fun x=>if x=196 then 135 else if x=259 then 144 else 0
  t:=fun x=>if x=0 then 0 else if x=3 then 3 else if x=4 then 4 else if x=5 then 5 else if x=9 then 9 else if x=12 then 12 else if x=46 then 188 else if x=53 then 174 else if x=119 then 204 else if x=138 then 206 else if x=139 then 207 else 0
  g:=fun x=>if x=3 then 0 else if x=4 then 1 else 0 }
set_option maxRecDepth 100000 in
theorem laysValid:Lays.n196 Tryz.prog u8ren:={
 mixed:=by kernel_rfl
 f196:=by kernel_rfl
 f259:=by kernel_rfl
 t0:=by kernel_rfl
 a0:=fun _=>by kernel_rfl
 z0:=fun _=>by kernel_rfl
 v0:=fun _=>by kernel_rfl
 t3:=by kernel_rfl
 a3:=fun _=>by kernel_rfl
 z3:=fun _=>by kernel_rfl
 v3:=fun _=>by kernel_rfl
 t4:=by kernel_rfl
 a4:=fun _=>by kernel_rfl
 z4:=fun _=>by kernel_rfl
 v4:=fun _=>by kernel_rfl
 t5:=by kernel_rfl
 a5:=fun _=>by kernel_rfl
 z5:=fun _=>by kernel_rfl
 v5:=fun _=>by kernel_rfl
 t9:=by kernel_rfl
 a9:=fun _=>by kernel_rfl
 z9:=fun _=>by kernel_rfl
 v9:=fun _=>by kernel_rfl
 t12:=by kernel_rfl
 a12:=fun _=>by kernel_rfl
 z12:=fun _=>by kernel_rfl
 v12:=fun _=>by kernel_rfl
 t46:=by kernel_rfl
 a46:=fun _=>by kernel_rfl
 z46:=fun _=>by kernel_rfl
 v46:=fun _=>by kernel_rfl
 t53:=by kernel_rfl
 a53:=fun _=>by kernel_rfl
 z53:=fun _=>by kernel_rfl
 v53:=fun _=>by kernel_rfl
 t119:=by kernel_rfl
 a119:=fun _=>by kernel_rfl
 z119:=fun _=>by kernel_rfl
 t138:=by kernel_rfl
 a138:=fun _=>by kernel_rfl
 z138:=fun _=>by kernel_rfl
 v138:=fun _=>by kernel_rfl
 t139:=by kernel_rfl
 a139:=fun _=>by kernel_rfl
 z139:=fun _=>by kernel_rfl
 v139:=fun _=>by kernel_rfl
 g3:=by kernel_rfl
 g4:=by kernel_rfl }
def Tabs (w:World):Prop:=Lib.Utf8Tabs 0 1 w
theorem Tabs.below {w w':World}(h:Tabs w)(hb:Below w.heap.size w w'):Tabs w':=Utf8Tabs_below h hb
theorem valid_any (l:List UInt8)(w:World)(hl:l.length≤9223372036854775807)(hT:Tabs w):Calls Tryz.prog 135 #[.string ⟨l.toArray⟩] w (Ret w (.bool (Lib.validD l))) :=
 Any.utf8_ValidString laysValid ⟨l.toArray⟩ w hl hT
theorem gFirst:Tryz.prog.globalNamed "unicode/utf8.first" = some 0:=by kernel_rfl
theorem gAccept:Tryz.prog.globalNamed "unicode/utf8.acceptRanges" = some 1:=by kernel_rfl
theorem gFirstType:(Tryz.prog.globals[0]?).map (·.type)=some 204:=by kernel_rfl
theorem gAcceptType:(Tryz.prog.globals[1]?).map (·.type)=some 207:=by kernel_rfl
theorem cellsU8:Tryz.prog.cellsOf 5=1:=by kernel_rfl
theorem cellsFirst:Tryz.prog.cellsOf 204=256:=by kernel_rfl
theorem cellsRange:Tryz.prog.cellsOf 206=2:=by kernel_rfl
theorem tabs_of_reads {w:World}(h3:Lib.VarReads Tryz.prog w "unicode/utf8.first" Lib.firstData)(h4:Lib.VarReads Tryz.prog w "unicode/utf8.acceptRanges" Lib.acceptData):Tabs w:=by
 have t119:=laysValid.t119
 have t139:=laysValid.t139
 have t138:=laysValid.t138
 have t5:=laysValid.t5
 refine⟨fun c hc=>?_,fun i hi=>?_⟩
 ·obtain⟨g,t,cs,fuel,p,hg,hty,hvar,hd⟩:=h3
  obtain rfl:=Option.some.inj (gFirst.symm.trans hg)
  obtain rfl:=Option.some.inj (gFirstType.symm.trans hty)
  have hcs:=Lib.cells_of_tab t119 t5 cellsU8 cellsFirst hd
  have:=World.var?_cell hg hvar c
  rw[this,← Array.getElem?_toList,hcs]
  simp[Lib.firstTab,hc]
 ·obtain⟨g,t,cs,fuel,p,hg,hty,hvar,hd⟩:=h4
  obtain rfl:=Option.some.inj (gAccept.symm.trans hg)
  obtain rfl:=Option.some.inj (gAcceptType.symm.trans hty)
  obtain⟨fuel',d,q,hdi,he⟩:=Lib.array_elem t139 hd i hi
  simp only[List.getElem?_map,List.getElem?_range hi,Option.map_some,Option.some.injEq] at hdi
  subst hdi
  rw[show u8ren.t 138=206 from rfl,cellsRange] at he
  have hcs:=Lib.ints_of_struct t138 (fun j f hj=>by
   match j,hj with
   |0,hj=>simp at hj;subst hj;exact⟨t5,rfl,cellsU8⟩
   |1,hj=>simp at hj;subst hj;exact⟨t5,rfl,cellsU8⟩
   |j+2,hj=>simp at hj) (by rw[show u8ren.t 138=206 from rfl,cellsRange];rfl) he
  have e0:=congrArg (·[0]?) hcs
  have e1:=congrArg (·[1]?) hcs
  simp only[List.getElem?_take,List.getElem?_drop] at e0 e1
  constructor
  ·rw[World.var?_cell hg hvar (2 * i),← Array.getElem?_toList]
   simpa [Nat.mul_comm] using e0
  ·rw[World.var?_cell hg hvar (2 * i+1),← Array.getElem?_toList]
   simpa [Nat.mul_comm] using e1
end Go.Proofs.YthjmjoioagocdaaGreatDoor
end
section
namespace Go.Proofs.YthjmjoioagocdaaGreatDoor
open Go.RowKit
theorem decRight_any (w:World)(k:Int):Calls Tryz.prog 134 #[.int .i64 k] w fun e w'=>e=.returned (.bool (scaleOk k))∧w=w':=by
 unfold scaleOk
 by_cases h:0≤k
 ·go_enter Tryz.func134,Tryz.ntmps134
  go_wp2_with fail
  go_ret
  exact⟨by rw[decide_eq_true h,Bool.true_and];rfl,rfl⟩
 ·have h':k<0:=by omega
  rw[decide_eq_false h,Bool.false_and]
  clear h
  go_enter Tryz.func134,Tryz.ntmps134
  go_wp2_with fail
  go_ret
  exact⟨rfl,rfl⟩
theorem and_one_cases (n:Int):bits BinOp.and IntKind.i64 n 1=0∨bits BinOp.and IntKind.i64 n 1=1:=by
 have h1:(BitVec.ofInt 64 (1:Int)).toNat=1:=by decide
 have e:bits BinOp.and IntKind.i64 n 1=IntKind.i64.wrap ((BitVec.ofInt 64 n &&& BitVec.ofInt 64 1).toNat:Int):=rfl
 rw[e,BitVec.toNat_and,h1,Nat.and_one_is_mod,IntKind.wrap_i64]
 omega
theorem and_one_self (n:Int):n=bits BinOp.and IntKind.i64 n 1↔(n=0∨n=1):=by
 constructor
 ·intro h
  rcases and_one_cases n with e|e<;>rw[e] at h<;>omega
 ·rintro (rfl|rfl)<;>decide
set_option maxRecDepth 100000 in
set_option maxHeartbeats 4000000 in
theorem right_any (x:Val) (w:World) (hT:Tabs w):Calls Tryz.prog 109 #[.agg #[.int .i64 x.kind,.int .i64 x.n,.int .i64 x.scale,.string ⟨x.s.toArray⟩]] w (Ret w (.bool (right x))):=by
 obtain⟨k,n,sc,s⟩:=x
 by_cases h0:k=0
 ·subst h0
  go_enter Tryz.func109,Tryz.ntmps109
  go_wp2_with fail
  all_goals go_ret
  all_goals exact⟨by simp[right, *],(by repeat (first|exact Below.refl _ _|assumption|(refine Below.alloc ?_ (by first|exact Nat.le_refl _|(simp;done)|(simp;omega)|omega) _)|(refine Below.setCell ?_ (by first|exact Nat.le_refl _|(simp;done)|(simp;omega)|omega) _)|refine Below.drew ?_|refine below_drewN ?_ _))⟩
 by_cases h1:k=1
 ·subst h1
  obtain⟨r,hr⟩:∃ r,bits BinOp.and IntKind.i64 n 1=r:=⟨_,rfl⟩
  have hr1:=and_one_self n
  rw[hr] at hr1
  have Hr1:=hide hr1
  clear hr1 h0
  go_enter Tryz.func109,Tryz.ntmps109
  go_wp2_with fail
  all_goals go_ret
  all_goals exact⟨by have:=unhide Hr1;simp_all [right],(by repeat (first|exact Below.refl _ _|assumption|(refine Below.alloc ?_ (by first|exact Nat.le_refl _|(simp;done)|(simp;omega)|omega) _)|(refine Below.setCell ?_ (by first|exact Nat.le_refl _|(simp;done)|(simp;omega)|omega) _)|refine Below.drew ?_|refine below_drewN ?_ _))⟩
 by_cases h2:k=2
 ·subst h2
  clear h0 h1
  go_enter Tryz.func109,Tryz.ntmps109
  go_wp2_with fail
  all_goals go_ret
  all_goals exact⟨by simp[right, *],(by repeat (first|exact Below.refl _ _|assumption|(refine Below.alloc ?_ (by first|exact Nat.le_refl _|(simp;done)|(simp;omega)|omega) _)|(refine Below.setCell ?_ (by first|exact Nat.le_refl _|(simp;done)|(simp;omega)|omega) _)|refine Below.drew ?_|refine below_drewN ?_ _))⟩
 by_cases h3:k=3
 ·subst h3
  clear h0 h1 h2
  go_enter Tryz.func109,Tryz.ntmps109
  go_wp2_with (go_at_call 134;refine (decRight_any _ _).mono ?_;rintro e w' ⟨rfl,rfl⟩)
  all_goals go_ret
  all_goals exact⟨by simp[right,scaleOk, *],(by repeat (first|exact Below.refl _ _|assumption|(refine Below.alloc ?_ (by first|exact Nat.le_refl _|(simp;done)|(simp;omega)|omega) _)|(refine Below.setCell ?_ (by first|exact Nat.le_refl _|(simp;done)|(simp;omega)|omega) _)|refine Below.drew ?_|refine below_drewN ?_ _))⟩
 by_cases h4:k=4
 ·subst h4
  clear h0 h1 h2 h3
  by_cases hl:s.length≤200
  ·have hl':(s.length:Int)≤200:=by omega
   obtain⟨V,hV⟩:∃ V,Lib.validD s=V:=⟨_,rfl⟩
   have hv:∀ w,Tabs w→Calls Tryz.prog 135 #[.string ⟨s.toArray⟩] w (Ret w (.bool V)):=fun w h=>by rw[← hV];exact valid_any s w (by omega) h
   have HV:=hide hV
   have Hv:=hide hv
   clear hV hv
   go_enter Tryz.func109,Tryz.ntmps109
   go_wp2_with (go_at_call 135;refine (unhide Hv _ (hT.below (by repeat (first|exact Below.refl _ _|assumption|(refine Below.alloc ?_ (by first|exact Nat.le_refl _|(simp;done)|(simp;omega)|omega) _)|(refine Below.setCell ?_ (by first|exact Nat.le_refl _|(simp;done)|(simp;omega)|omega) _)|refine Below.drew ?_|refine below_drewN ?_ _)))).mono ?_;rintro e w' ⟨rfl,hb'⟩)
   all_goals go_ret
   ·exact⟨by simp[right,unhide HV, *],(Below.trans ((Below.refl _ _).alloc (Nat.le_refl _) _) (hb'.mono (by simp)))⟩
   all_goals exact⟨by simp[right, *],(by repeat (first|exact Below.refl _ _|assumption|(refine Below.alloc ?_ (by first|exact Nat.le_refl _|(simp;done)|(simp;omega)|omega) _)|(refine Below.setCell ?_ (by first|exact Nat.le_refl _|(simp;done)|(simp;omega)|omega) _)|refine Below.drew ?_|refine below_drewN ?_ _))⟩
  ·have hl':(200:Int)<(s.length:Int):=by omega
   go_enter Tryz.func109,Tryz.ntmps109
   go_wp2_with fail
   all_goals go_ret
   all_goals exact⟨by simp[right,hl, *],(by repeat (first|exact Below.refl _ _|assumption|(refine Below.alloc ?_ (by first|exact Nat.le_refl _|(simp;done)|(simp;omega)|omega) _)|(refine Below.setCell ?_ (by first|exact Nat.le_refl _|(simp;done)|(simp;omega)|omega) _)|refine Below.drew ?_|refine below_drewN ?_ _))⟩
 by_cases h5:k=5
 ·subst h5
  clear h0 h1 h2 h3 h4
  by_cases hl:s.length≤200
  ·have hl':(s.length:Int)≤200:=by omega
   go_enter Tryz.func109,Tryz.ntmps109
   go_wp2_with fail
   all_goals go_ret
   all_goals exact⟨by simp[right,hl, *],(by repeat (first|exact Below.refl _ _|assumption|(refine Below.alloc ?_ (by first|exact Nat.le_refl _|(simp;done)|(simp;omega)|omega) _)|(refine Below.setCell ?_ (by first|exact Nat.le_refl _|(simp;done)|(simp;omega)|omega) _)|refine Below.drew ?_|refine below_drewN ?_ _))⟩
  ·have hl':(200:Int)<(s.length:Int):=by omega
   go_enter Tryz.func109,Tryz.ntmps109
   go_wp2_with fail
   all_goals go_ret
   all_goals exact⟨by simp[right,hl, *],(by repeat (first|exact Below.refl _ _|assumption|(refine Below.alloc ?_ (by first|exact Nat.le_refl _|(simp;done)|(simp;omega)|omega) _)|(refine Below.setCell ?_ (by first|exact Nat.le_refl _|(simp;done)|(simp;omega)|omega) _)|refine Below.drew ?_|refine below_drewN ?_ _))⟩
 have e0:(k==0)=false:=by simp[h0]
 have e1:(k==1)=false:=by simp[h1]
 have e2:(k==2)=false:=by simp[h2]
 have e3:(k==3)=false:=by simp[h3]
 have e4:(k==4)=false:=by simp[h4]
 have e5:(k==5)=false:=by simp[h5]
 have hr:right ⟨k,n,sc,s⟩=false:=by simp[right,h0,h1,h2,h3,h4,h5]
 rw[hr]
 clear hr h0 h1 h2 h3 h4 h5
 go_enter Tryz.func109,Tryz.ntmps109
 go_wp2_with fail
 all_goals go_ret
 all_goals exact⟨rfl,(by repeat (first|exact Below.refl _ _|assumption|(refine Below.alloc ?_ (by first|exact Nat.le_refl _|(simp;done)|(simp;omega)|omega) _)|(refine Below.setCell ?_ (by first|exact Nat.le_refl _|(simp;done)|(simp;omega)|omega) _)|refine Below.drew ?_|refine below_drewN ?_ _))⟩
theorem xor_top (k N:Nat)(h:N<2^(k+1)):N ^^^ 2^k=(N+2^k)%2^(k+1):=by
 apply Nat.eq_of_testBit_eq
 intro j
 rw[Nat.testBit_xor,Nat.testBit_mod_two_pow,Nat.testBit_two_pow,Nat.add_comm N (2^k)]
 rcases Nat.lt_trichotomy j k with hj|hj|hj
 ·rw[Nat.testBit_two_pow_add_gt hj]
  have:¬ k=j:=by omega
  have h2:j<k+1:=by omega
  simp[this,h2]
 ·subst hj
  rw[Nat.testBit_two_pow_add_eq]
  simp
 ·have h1:N.testBit j=false:=Nat.testBit_lt_two_pow (Nat.lt_of_lt_of_le h (Nat.pow_le_pow_right (by omega) (by omega)))
  have h2:¬ j<k+1:=by omega
  have:¬ k=j:=by omega
  simp[h1,h2,this]
def flipN (n:Int):Nat:=((n+9223372036854775808)%18446744073709551616).toNat
theorem flipN_lt (n:Int):flipN n<18446744073709551616:=by unfold flipN;omega
theorem wrapu_nat (n:Int):IntKind.u64.wrap n=((n%18446744073709551616).toNat:Int):=by rw[IntKind.wrap_u64];omega
theorem xor_u64_top (n:Int):bits BinOp.xor IntKind.u64 (IntKind.u64.wrap n) 9223372036854775808=(flipN n:Int):=by
 rw[wrapu_nat]
 obtain⟨N,hN⟩:∃ N,(n%18446744073709551616).toNat=N:=⟨_,rfl⟩
 have hlt:N<18446744073709551616:=by omega
 rw[hN]
 have h1:(BitVec.ofInt 64 (9223372036854775808:Int)).toNat=2^63:=by decide
 have h2:(BitVec.ofInt 64 (N:Int)).toNat=N:=by rw[BitVec.ofInt_natCast,BitVec.toNat_ofNat];exact Nat.mod_eq_of_lt (by omega)
 have e:bits BinOp.xor IntKind.u64 (N:Int) 9223372036854775808=IntKind.u64.wrap ((BitVec.ofInt 64 (N:Int) ^^^ BitVec.ofInt 64 9223372036854775808).toNat:Int):=rfl
 rw[e,BitVec.toNat_xor,h1,h2,xor_top 63 N (by omega),IntKind.wrap_u64]
 unfold flipN
 omega
theorem xor_u8_top (t:Nat)(h:t<256):bits BinOp.xor IntKind.u8 (t:Int) 128=((t+128)%256:Nat):=by
 have h1:(BitVec.ofInt 8 (128:Int)).toNat=2^7:=by decide
 have h2:(BitVec.ofInt 8 (t:Int)).toNat=t:=by rw[BitVec.ofInt_natCast,BitVec.toNat_ofNat];exact Nat.mod_eq_of_lt (by omega)
 have e:bits BinOp.xor IntKind.u8 (t:Int) 128=IntKind.u8.wrap ((BitVec.ofInt 8 (t:Int) ^^^ BitVec.ofInt 8 128).toNat:Int):=rfl
 rw[e,BitVec.toNat_xor,h1,h2,xor_top 7 t (by omega),IntKind.wrap_u8]
 omega
theorem byte_of (U j:Nat):(U:Int)/2^j%256=((UInt8.ofNat (U/2^j%256)).toNat:Int):=by
 rw[UInt8.toNat_ofNat']
 have e:((U/2^j%256:Nat):Int)=(U:Int)/2^j%256:=by
  rw[Int.natCast_emod,Int.natCast_ediv,Int.natCast_pow];rfl
 rw[← e]
 omega
def beTo (u:Nat)(k:Nat):List UInt8:=(List.range k).map fun j=>UInt8.ofNat (u/2^(56-8 * j)%256)
def be8 (n:Int):List UInt8:=beTo (flipN n) 8
theorem beTo_succ (u k:Nat):beTo u (k+1)=beTo u k++[UInt8.ofNat (u/2^(56-8 * k)%256)]:=by simp[beTo,List.range_succ]
theorem beTo_length (u k:Nat):(beTo u k).length=k:=by simp[beTo]
def escTo:List UInt8→List UInt8
 |[]=>[]
 |c::l=>(if c=0 then [0,255] else [c])++escTo l
theorem escTo_append (a b:List UInt8):escTo (a++b)=escTo a++escTo b:=by
 induction a with
 |nil=>rfl
 |cons c a ih=>simp[escTo,ih]
theorem escTo_length (l:List UInt8):(escTo l).length≤2 * l.length:=by
 induction l with
 |nil=>simp[escTo]
 |cons c l ih=>rw[escTo,List.length_append,List.length_cons];split<;>simp<;>omega
def enc0 (v:Val):List UInt8 :=
 UInt8.ofNat v.kind.toNat::(if v.kind=1 then [UInt8.ofNat v.n.toNat] else if v.kind=2 then be8 v.n else if v.kind=3 then UInt8.ofNat v.scale.toNat::be8 v.n
  else if v.kind=4∨v.kind=5 then escTo v.s++[0,1] else [])
def enc (v:Val):List UInt8:=enc0 (plain v)
def encs (l:List Val):List UInt8:=l.flatMap enc
theorem Sl.new1 (w:World)(t:TypeId)(i:Int)(c:UInt8)(h:i=(c.toNat:Int)):Sl (w.alloc (.cells #[.int .u8 i] t)) 1 (some ⟨w.heap.size,0,none⟩) 1 1 (bvs [c]):=by
 subst h
 exact Sl.fresh #[.int .u8 (c.toNat:Int)] t (0,0) 1 1 1 rfl (Nat.le_refl _) (by simp[maxLen])
theorem Sl.new2 (w:World)(t:TypeId)(i j:Int)(c d:UInt8)(h:i=(c.toNat:Int))(h':j=(d.toNat:Int)):Sl (w.alloc (.cells #[.int .u8 i,.int .u8 j] t)) 1 (some ⟨w.heap.size,0,none⟩) 2 2 (bvs [c,d]):=by
 subst h;subst h'
 exact Sl.fresh #[.int .u8 (c.toNat:Int),.int .u8 (d.toNat:Int)] t (0,0) 1 2 2 rfl (Nat.le_refl _) (by simp[maxLen])
theorem u8_info:(Tryz.prog.info? 5).map (fun i=>(i.zero,i.size,i.bytes))=some (some (.int .u8 0),1,1):=by kernel_rfl
def OwnB (w:World)(B:Nat)(v:Value)(l:List UInt8):Prop:=w.ownsRow B 5 1 v l.length (bvs l)
def OwnV (w:World)(B:Nat)(v:Value)(l:List Val):Prop:=w.ownsRow B 54 4 v l.length (vcs l)
theorem OwnB.nil (w:World)(B:Nat):OwnB w B (.slice none 0 0) []:=World.ownsRow_nil _ _ _ _
theorem OwnV.nil (w:World)(B:Nat):OwnV w B (.slice none 0 0) []:=World.ownsRow_nil _ _ _ _
theorem OwnB.alloc {w:World}{B:Nat}{v:Value}{l:List UInt8}(h:OwnB w B v l)(o:Obj):OwnB (w.alloc o) B v l:=World.ownsRow.alloc h o
theorem OwnB.below {w w':World}{B:Nat}{v:Value}{l:List UInt8}(h:OwnB w B v l){C:Nat}(hb:Below C w w')(hC:w.heap.size≤C):OwnB w' B v l:=own_below h hb hC
theorem OwnB.form {w:World}{B:Nat}{v:Value}{l:List UInt8}(h:OwnB w B v l):∃ A c,v=.slice A l.length c∧Sl w 1 A l.length c (bvs l):=by
 obtain⟨A,c,hv,hs,_⟩:=own_form h
 exact⟨A,c,hv,hs⟩
theorem Ext.alloc {w:World}{v:Value}{w':World}{v':Value}(h:Ext w v w' v')(o:Obj):Ext w v (w'.alloc o) v':=h.after ((Below.refl _ _).alloc (Nat.le_refl _) _)
theorem app_bytes {w:World}{ops:Array Oper}{rest:List Oper}{o:Oper}{a:Act}{Q:Exit→Act→World→Prop}(hgd:o.guard=none)(s x:Operand)
  (ho:o.op=.call { callee:=.builtin .append,args:=#[s,x],argTypes:=#[108,108] })
  {B:Nat} {v:Value} {l l':List UInt8} (hs:a.eval s=v) (hown:OwnB w B v l) {A:Option Addr} {m c:Nat} (hx:a.eval x=.slice A m c) (hr:Sl w 1 A m c (bvs l'))
  (hlen:l.length+l'.length≤1000000000000) (hbase:B≤w.heap.size)
  (h:∀ v' w',OwnB w' B v' (l++l')→Ext w v w' v'→wpList Tryz.prog ops Q rest (a.put o.dst v') w') :
  wpList Tryz.prog ops Q (o::rest) a w:=by
 have hm:=hr.blen
 refine wpList_append_sl hgd s x _ ho B 5 _ 1 1 Tryz.underlying108 u8_info rfl (by omega) hs hown hx hr (bvs_one _) (by simp only[maxLen];omega) (by omega) hbase fun v' w' h1 h2 h3=>h v' w' ?_ (Ext.appended (Below.refl _ _) h2 h3)
 unfold OwnB
 rw[bvs_append,List.length_append,hm]
 exact h1
theorem step_app_bytes {w:World}{ops:Array Oper}{o:Oper}{a:Act}{K:Act→World→Prop}{Q:Exit→Act→World→Prop}{E:Prop}(hgd:o.guard=none)(s x:Operand)
  (ho:o.op=.call { callee:=.builtin .append,args:=#[s,x],argTypes:=#[108,108] })
  {B:Nat} {v:Value} {l l':List UInt8} (hs:a.eval s=v) (hown:OwnB w B v l) {A:Option Addr} {m c:Nat} (hx:a.eval x=.slice A m c) (hr:Sl w 1 A m c (bvs l'))
  (hlen:l.length+l'.length≤1000000000000) (hbase:B≤w.heap.size)
  (h:∀ v' w',OwnB w' B v' (l++l')→Ext w v w' v'→K (a.put o.dst v') w') :
  if Region.wanted o (yielded ops a.tmps)=true then Oper.wp Tryz.prog o a w K Q else E:=by
 have hw:Region.wanted o (yielded ops a.tmps)=true:=by simp[Region.wanted,hgd]
 rw[if_pos hw]
 have hm:=hr.blen
 obtain⟨i,hi,hz,hsize,hby⟩:=info_parts u8_info
 obtain⟨v',w',hr',h2,h3,h5⟩:=run_append_sl (P:=Tryz.prog) w B _ o.type _ i _ 1 1 Tryz.underlying108 hi hz hsize hby rfl (by omega) v l.length (bvs l) hown A m c (bvs l') hr (bvs_one _) (by simp only[maxLen];omega) (by omega) hbase
 unfold Oper.wp execOp
 simp only[ho,resolve,invoke,builtin,Sem.run_bind,Sem.run_pure,Result.andThen_ok,List.map_toArray,List.map_cons,List.map_nil,hs,hx,hr']
 refine h v' w' ?_ (Ext.appended (Below.refl _ _) h3 h5)
 unfold OwnB
 rw[bvs_append,List.length_append,hm]
 exact h2
def Appends (w:World)(B:Nat)(v:Value)(l:List UInt8):Ending→World→Prop:=fun e w' =>
 ∃ v',e=.returned v'∧OwnB w' B v' l∧Ext w v w' v'
set_option maxHeartbeats 400000 in
theorem number_any (w:World) (B:Nat) (v:Value) (l:List UInt8) (n:Int) (hB:B≤w.heap.size) (hown:OwnB w B v l) (hl:l.length≤100000000000) :
  Calls Tryz.prog 110 #[v,.int .i64 n] w (Appends w B v (l++be8 n)):=by
 obtain⟨U,hU⟩:∃ U,flipN n=U:=⟨_,rfl⟩
 have hx:=xor_u64_top n
 rw[hU] at hx
 have he:be8 n=beTo U 8:=by rw[be8,hU]
 rw[he]
 clear hU he
 go_enter Tryz.func110,Tryz.ntmps110
 go_wp2_with fail
 clear hx
 go_loopw [0,6] (fun v1 i wr=>∃ k:Nat,k≤8∧i=.int .i64 (56-8 * (k:Int))∧OwnB wr B v1 (l++beTo U k)∧Ext w v wr v1) (fun _ i _=>(intOf i+9).toNat)
 case atStart=>exact⟨0,by omega,rfl,by simpa [beTo] using hown,Ext.refl _ _⟩
 case round =>
  obtain⟨k,hk,rfl,ho,hx⟩:=hrel
  have hBr:B≤wr.heap.size:=Nat.le_trans hB hx.grown.size
  by_cases hk8:k<8
  ·have hge:(0:Int)≤56-8 * (k:Int):=by omega
   have hlk:=beTo_length U k
   go_wp2_with (refine app_bytes rfl (.tmp 14) (.tmp 19) rfl rfl (ho.alloc _) rfl (Sl.new1 _ _ _ (UInt8.ofNat (U/2^(56-8 * k)%256)) (byte_of _ _)) ?_ ?_ ?_;(· simp;omega);(· simp;omega);intro v2 w2 ho2 hx2)
   go_roundw
   case rel=>exact⟨k+1,by omega,by go_num,by rw[beTo_succ,← List.append_assoc];exact ho2,(hx.alloc _).trans hx2⟩
   case measure=>exact (by first|(simp[intOf];done)|(simp[intOf];omega))
  ·obtain rfl:k=8:=by omega
   go_wp2_with fail
   go_ret
   exact⟨_,rfl,ho,hx⟩
theorem escTo_succ {s:List UInt8}{k:Nat}{c:UInt8}(h:s[k]? = some c):escTo (s.take (k+1))=escTo (s.take k)++(if c=0 then [0,255] else [c]):=by
 have hk:k<s.length:=by
  rcases Nat.lt_or_ge k s.length with h' | h'
  ·exact h'
  ·rw[List.getElem?_eq_none h'] at h;cases h
 have hd:s[k]=c:=by rw[List.getElem?_eq_getElem hk] at h;injection h
 rw[List.take_succ_eq_append_getElem hk,escTo_append,hd]
 simp[escTo]
theorem escTake_length (s:List UInt8)(k:Nat)(h:s.length≤100000000000):(escTo (s.take k)).length≤200000000000:=by
 have:=escTo_length (s.take k)
 have h2:(s.take k).length≤s.length:=by rw[List.length_take];omega
 omega
set_option maxHeartbeats 1000000 in
theorem text_any (w:World) (B:Nat) (v:Value) (l s:List UInt8) (hB:B≤w.heap.size) (hown:OwnB w B v l) (hl:l.length≤100000000000) (hs:s.length≤100000000000) :
  Calls Tryz.prog 111 #[v,.string ⟨s.toArray⟩] w (Appends w B v (l++(escTo s++[0,1]))):=by
 go_enter Tryz.func111,Tryz.ntmps111
 go_wp2_with fail
 go_loopw [0,8] (fun v1 i wr=>∃ k:Nat,k≤s.length∧i=.int .i64 (k:Int)∧OwnB wr B v1 (l++escTo (s.take k))∧Ext w v wr v1) (fun _ i _=>s.length-(intOf i).toNat)
 case atStart=>exact⟨0,by omega,rfl,by simpa [escTo] using hown,Ext.refl _ _⟩
 case round =>
  obtain⟨k,hk,rfl,ho,hx⟩:=hrel
  have hBr:B≤wr.heap.size:=Nat.le_trans hB hx.grown.size
  have hel:=escTake_length s k hs
  by_cases hlt:k<s.length
  ·obtain⟨c,hc⟩:∃ c,s[k]? = some c:=⟨s[k],by simp⟩
   have hbyte:=byteAt hc
   have hsucc:=hide (escTo_succ hc)
   have b0:(0:Int)≤(c.toNat:Int):=by omega
   have b1:(c.toNat:Int)<256:=by have:=c.toNat_lt;omega
   have hlt':(k:Int)<(s.length:Int):=by omega
   clear hc
   by_cases h0:c=0
   ·have hz:(c.toNat:Int)=0:=by rw[h0];rfl
    have hsucc':=hide (show escTo (s.take (k+1))=escTo (s.take k)++[0,255] by rw[unhide hsucc,if_pos h0])
    clear b0 b1 h0 hsucc
    go_wp2_with (first|(refine app_bytes rfl (.tmp 11) (.tmp 15) rfl rfl (ho.alloc _) rfl (Sl.new1 _ _ _ 0 rfl) ?_ ?_ ?_;(· simp;omega);(· simp;omega);intro v2 w2 ho2 hx2)|(refine app_bytes rfl (.tmp 21) (.tmp 22) rfl rfl (ho2.alloc _) rfl (Sl.new1 _ _ _ 255 rfl) ?_ ?_ ?_;(· simp;omega);(· have:=hx2.grown.size;simp at this;simp;omega);intro v3 w3 ho3 hx3))
    go_roundw
    case rel=>exact⟨k+1,by omega,by go_num,by rw[unhide hsucc'];simpa using ho3,((hx.alloc _).trans hx2).alloc _ |>.trans hx3⟩
    case measure=>exact (by first|(simp[intOf];done)|(simp[intOf];omega))
   ·have hz:((c.toNat:Int)==0)=false:=by
     rw[beq_eq_false_iff_ne]
     intro e
     exact h0 (UInt8.toNat_inj.1 (by simpa using e))
    have hsucc':=hide (show escTo (s.take (k+1))=escTo (s.take k)++[c] by rw[unhide hsucc,if_neg h0])
    clear h0 hsucc
    go_wp2_with (refine app_bytes rfl (.tmp 11) (.tmp 15) rfl rfl (ho.alloc _) rfl (Sl.new1 _ _ _ c rfl) ?_ ?_ ?_;(· simp;omega);(· simp;omega);intro v2 w2 ho2 hx2)
    go_roundw
    case rel=>exact⟨k+1,by omega,by go_num,by rw[unhide hsucc',← List.append_assoc];exact ho2,(hx.alloc _).trans hx2⟩
    case measure=>exact (by first|(simp[intOf];done)|(simp[intOf];omega))
  ·obtain rfl:k=s.length:=by omega
   have ht:s.take s.length=s:=List.take_of_length_le (Nat.le_refl _)
   rw[ht] at ho hel
   clear ht
   go_wp2_with (refine app_bytes rfl (.tmp 25) (.tmp 26) rfl rfl (ho.alloc _) rfl (Sl.new2 _ _ _ _ 0 1 rfl rfl) ?_ ?_ ?_;(· simp;omega);(· simp;omega);intro v2 w2 ho2 hx2)
   go_ret
   exact⟨_,rfl,by rw[← List.append_assoc];exact ho2,(hx.alloc _).trans hx2⟩
theorem ext_of_below {w w1:World}{v:Value}(h:Below w.heap.size w w1):Ext w v w1 v:=(Ext.refl w v).after h
theorem ValAt.below {w w':World}{b o B:Nat}{x:Val}(h:ValAt w b o x)(hb:Below B w w')(hlt:b<B):ValAt w' b o x:=by
 obtain⟨h0,h1,h2,h3⟩:=h
 have e:∀ o,w'.cell? ⟨b,o,none⟩=w.cell? ⟨b,o,none⟩:=fun o=>hb.cell (p:=⟨b,o,none⟩) hlt
 exact⟨(e _).trans h0,(e _).trans h1,(e _).trans h2,(e _).trans h3⟩
theorem ValAt.ext {w w':World}{b o:Nat}{x:Val}{v v':Value}(h:ValAt w b o x)(hx:Ext w v w' v')(hlt:b<w.heap.size)(hne:some b≠v.ownBlock):ValAt w' b o x:=by
 obtain⟨h0,h1,h2,h3⟩:=h
 have e:∀ o,w'.cell? ⟨b,o,none⟩=w.cell? ⟨b,o,none⟩:=fun o=>World.cell?_of_block (a:=⟨b,o,none⟩) (hx.grown.block b hlt hne)
 exact⟨(e _).trans h0,(e _).trans h1,(e _).trans h2,(e _).trans h3⟩
theorem Ext.cell {w w':World}{b o:Nat}{v v' u:Value}(hx:Ext w v w' v')(hlt:b<w.heap.size)(hne:some b≠v.ownBlock)(h:w.cell? ⟨b,o,none⟩=some u):w'.cell? ⟨b,o,none⟩=some u :=
 (World.cell?_of_block (a:=⟨b,o,none⟩) (hx.grown.block b hlt hne)).trans h
theorem Ext.ne {w w':World}{b:Nat}{v v':Value}(hx:Ext w v w' v')(hlt:b<w.heap.size)(hne:some b≠v.ownBlock):some b≠v'.ownBlock:=by
 rcases hx.lies with e|⟨g,e,hg⟩<;>rw[e]
 ·exact hne
 ·intro e2
  injection e2 with e2
  omega
theorem right_cases {y:Val}(h:right y=true):y.kind=0∨(y.kind=1∧0≤y.n∧y.n≤1)∨y.kind=2∨(y.kind=3∧0≤y.scale∧y.scale≤6)∨(y.kind=4∧y.s.length≤200)∨(y.kind=5∧y.s.length≤200):=by
 unfold right at h
 split at h
 ·exact .inl ‹_›
 split at h
 ·have:=of_decide_eq_true h
  exact .inr (.inl ⟨‹_›,by omega,by omega⟩)
 split at h
 ·exact .inr (.inr (.inl ‹_›))
 split at h
 ·have:=of_decide_eq_true h
  exact .inr (.inr (.inr (.inl ⟨‹_›,this.2⟩)))
 split at h
 ·rw[Bool.and_eq_true] at h
  have:=of_decide_eq_true h.1
  exact .inr (.inr (.inr (.inr (.inl ⟨‹_›,this.2.2⟩))))
 split at h
 ·have:=of_decide_eq_true h
  exact .inr (.inr (.inr (.inr (.inr ⟨‹_›,this.2.2⟩))))
 ·cases h
set_option maxRecDepth 100000 in
set_option maxHeartbeats 1000000 in
theorem put_any (w:World) (B:Nat) (v:Value) (l:List UInt8) (x:Val) (hB:B≤w.heap.size) (hown:OwnB w B v l) (hl:l.length≤100000000) (hT:Tabs w) :
    Calls Tryz.prog 79 #[v,.agg #[.int .i64 x.kind,.int .i64 x.n,.int .i64 x.scale,.string ⟨x.s.toArray⟩]] w (Appends w B v (l ++ enc x)):=by
  have hr:∀ w,Tabs w→_:=fun w h=>right_any x w h
  have hlt:∀ k,v.ownBlock=some k→k < w.heap.size:=fun k hk=>(World.ownsRow.lt hown k hk).2
  have Hlt:=hide hlt
  have Hr:=hide hr
  have hy:=right_plain x
  unfold enc
  obtain ⟨y,hyx⟩:∃ y,plain x=y:=⟨_,rfl⟩
  rw [hyx] at hy ⊢
  have HY:=hide hy
  have HYX:=hide hyx
  clear hlt hr hy hyx
  go_enter Tryz.func79,Tryz.ntmps79
  go_upto_if 7 with (go_at_call 109;refine (unhide Hr _ (hT.below (by repeat (first | with_reducible exact Below.refl _ _ | with_reducible assumption | ((with_reducible refine Below.alloc ?_ ?_ _);rotate_left;(first | exact Nat.le_refl _ | (simp;done) | (simp;omega) | omega)) | ((with_reducible refine Below.setCell ?_ ?_ _);rotate_left;(first | exact Nat.le_refl _ | (simp;done) | (simp;omega) | omega)) | (with_reducible refine Below.drew ?_) | (with_reducible refine bdrewN ?_ _))))).mono ?_;rintro e w1 ⟨rfl,hb⟩;have hbw:Below w.heap.size w w1:=below_step hb (by repeat (first | with_reducible exact Below.refl _ _ | with_reducible assumption | ((with_reducible refine Below.alloc ?_ ?_ _);rotate_left;(first | exact Nat.le_refl _ | (simp;done) | (simp;omega) | omega)) | ((with_reducible refine Below.setCell ?_ ?_ _);rotate_left;(first | exact Nat.le_refl _ | (simp;done) | (simp;omega) | omega)) | (with_reducible refine Below.drew ?_) | (with_reducible refine bdrewN ?_ _))) (by first | exact Nat.le_refl _ | (simp;done) | (simp;omega) | omega);obtain ⟨hb1,hb2,hb3⟩:=bcell hb;(try simp at hb3);clear hb)
  go_cut [] (fun wx=>ValAt wx w.heap.size 0 y∧Below w.heap.size w wx∧w.heap.size < wx.heap.size)
  case first =>
    try simp at hb3
    rcases hx:right x with _ | _
    all_goals
      go_wp2_with fail
      go_meet
      exact ⟨by rw [← unhide HYX];simp [ValAt,hb1,plain,hx,vnull,go_sem],(by repeat (first | with_reducible exact Below.refl _ _ | with_reducible assumption | ((with_reducible refine Below.alloc ?_ ?_ _);rotate_left;(first | exact Nat.le_refl _ | (simp;done) | (simp;omega) | omega)) | ((with_reducible refine Below.setCell ?_ ?_ _);rotate_left;(first | exact Nat.le_refl _ | (simp;done) | (simp;omega) | omega)) | (with_reducible refine Below.drew ?_) | (with_reducible refine bdrewN ?_ _))),by first | omega | (simp;omega)⟩
  case rest =>
    obtain ⟨hv,hbw,hlt⟩:=hcut
    clear hb1 hb2 hb3 Hr
    have hne:some w.heap.size≠v.ownBlock:=fun e=>by have:=unhide Hlt _ e.symm;omega
    have howx:OwnB wc B v l:=hown.below hbw (Nat.le_refl _)
    have hxw:Ext w v wc v:=ext_of_below hbw
    have hBc:B≤wc.heap.size:=by omega
    have hcs:=right_cases (unhide HY)
    obtain ⟨k,n,sc,s⟩:=y
    clear HY HYX hown hbw Hlt hT
    have hvo:=hv
    simp only [ValAt,Nat.zero_add] at hvo
    obtain ⟨p0,p1,p2,p3⟩:=hvo
    rcases hcs with h | ⟨h,h1,h2⟩ | h | ⟨h,h1,h2⟩ | ⟨h,h1⟩ | ⟨h,h1⟩
    · obtain rfl:k=0:=h
      go_wp2_with (refine app_bytes rfl (.tmp 9) (.tmp 13) rfl rfl (howx.alloc _) rfl (Sl.new1 _ _ _ 0 rfl) ?_ ?_ ?_;(· simp;omega);(· simp;omega);intro v2 w2 ho2 hx2;have hv2:=(hv.below ((Below.refl _ _).alloc (Nat.le_refl _) _) hlt).ext hx2 (by simp;omega) hne;simp only [ValAt,Nat.zero_add] at hv2;obtain ⟨q0,q1,q2,q3⟩:=hv2;have hs2:=hx2.grown.size;simp at hs2;replace hs2:w.heap.size < w2.heap.size:=by omega)
      go_ret
      exact ⟨_,rfl,ho2,(hxw.alloc _).trans hx2⟩
    · obtain rfl:k=1:=h
      replace h1:0≤n:=h1
      replace h2:n≤1:=h2
      go_wp2_with (first | (refine app_bytes rfl (.tmp 9) (.tmp 13) rfl rfl (howx.alloc _) rfl (Sl.new1 _ _ _ 1 rfl) ?_ ?_ ?_;(· simp;omega);(· simp;omega);intro v2 w2 ho2 hx2;have hv2:=(hv.below ((Below.refl _ _).alloc (Nat.le_refl _) _) hlt).ext hx2 (by simp;omega) hne;simp only [ValAt,Nat.zero_add] at hv2;obtain ⟨q0,q1,q2,q3⟩:=hv2;have hs2:=hx2.grown.size;simp at hs2;replace hs2:w.heap.size < w2.heap.size:=by omega) | (refine app_bytes rfl (.tmp 19) (.tmp 23) rfl rfl (ho2.alloc _) rfl (Sl.new1 _ _ _ (UInt8.ofNat n.toNat) ?_) ?_ ?_ ?_;(· rw [UInt8.toNat_ofNat'];omega);(· simp;omega);(· simp;omega);intro v3 w3 ho3 hx3))
      go_ret
      exact ⟨_,rfl,by simpa [enc0] using ho3,(((hxw.alloc _).trans hx2).alloc _).trans hx3⟩
    · obtain rfl:k=2:=h
      go_wp2_with (first | (refine app_bytes rfl (.tmp 9) (.tmp 13) rfl rfl (howx.alloc _) rfl (Sl.new1 _ _ _ 2 rfl) ?_ ?_ ?_;(· simp;omega);(· simp;omega);intro v2 w2 ho2 hx2;have hv2:=(hv.below ((Below.refl _ _).alloc (Nat.le_refl _) _) hlt).ext hx2 (by simp;omega) hne;simp only [ValAt,Nat.zero_add] at hv2;obtain ⟨q0,q1,q2,q3⟩:=hv2;have hs2:=hx2.grown.size;simp at hs2;replace hs2:w.heap.size < w2.heap.size:=by omega) | (go_at_call 110;refine (number_any _ B _ _ _ ?_ ho2 ?_).mono ?_;(· omega);(· simp;omega);rintro e w3 ⟨v3,rfl,ho3,hx3⟩))
      go_ret
      exact ⟨_,rfl,by simpa [enc0] using ho3,((hxw.alloc _).trans hx2).trans hx3⟩
    · obtain rfl:k=3:=h
      replace h1:0≤sc:=h1
      replace h2:sc≤6:=h2
      go_wp2_with (refine app_bytes rfl (.tmp 9) (.tmp 13) rfl rfl (howx.alloc _) rfl (Sl.new1 _ _ _ 3 rfl) ?_ ?_ ?_;(· simp;omega);(· simp;omega);intro v2 w2 ho2 hx2;have hv2:=(hv.below ((Below.refl _ _).alloc (Nat.le_refl _) _) hlt).ext hx2 (by simp;omega) hne;simp only [ValAt,Nat.zero_add] at hv2;obtain ⟨q0,q1,q2,q3⟩:=hv2;have hs2:=hx2.grown.size;simp at hs2;replace hs2:w.heap.size < w2.heap.size:=by omega)
      have hne2:=hx2.ne (b:=w.heap.size) (by simp;omega) hne
      go_region_held3 (fun w'=>w'.cell? ⟨w.heap.size,1,none⟩=some (.int .i64 n)∧w'.cell? ⟨w.heap.size,2,none⟩=some (.int .i64 sc))
        (first | go_keep | exact ⟨r1,r2⟩)
        ((first
          | (refine step_app_bytes (by rfl) (.tmp 33) (.tmp 37) (by rfl) (B:=B) (l:=l ++ [3]) (by rfl) ((ho2.alloc _).below (Below.refl _ _).drew (Nat.le_refl _)) (by rfl) (l':=[UInt8.ofNat sc.toNat]) (Sl.drew (Sl.new1 _ _ _ _ ?_)) ?_ ?_ ?_
             · rw [UInt8.toNat_ofNat',IntKind.wrap_u8];omega
             · simp;omega
             · simp;omega
             intro v3 w3 ho3 hx3
             have hs3:=hx3.grown.size
             simp at hs3
             have r1:w3.cell? ⟨w.heap.size,1,none⟩=some (.int .i64 n):=hx3.cell (by simp;omega) hne2 ((World.cell?_alloc_lt w2 _ _ hs2).trans q1)
             have r2:w3.cell? ⟨w.heap.size,2,none⟩=some (.int .i64 sc):=hx3.cell (by simp;omega) hne2 ((World.cell?_alloc_lt w2 _ _ hs2).trans q2)
             have hne3:=hx3.ne (b:=w.heap.size) (by simp;omega) hne2)
          | (go_at_call 110;refine (number_any _ B _ _ _ ?_ ho3 ?_).mono ?_;(· omega);(· simp;omega);rintro e w4 ⟨v4,rfl,ho4,hx4⟩;replace r1:=hx4.cell (by omega) hne3 r1;replace r2:=hx4.cell (by omega) hne3 r2)))
      go_wp2_with fail
      go_ret
      exact ⟨_,rfl,by simpa [enc0] using ho4,(((((hxw.alloc _).trans hx2).alloc _).after (Below.refl _ _).drew).trans hx3).trans hx4⟩
    · obtain rfl:k=4:=h
      replace h1:s.length≤200:=h1
      go_wp2_with (first | (refine app_bytes rfl (.tmp 9) (.tmp 13) rfl rfl (howx.alloc _) rfl (Sl.new1 _ _ _ 4 rfl) ?_ ?_ ?_;(· simp;omega);(· simp;omega);intro v2 w2 ho2 hx2;have hv2:=(hv.below ((Below.refl _ _).alloc (Nat.le_refl _) _) hlt).ext hx2 (by simp;omega) hne;simp only [ValAt,Nat.zero_add] at hv2;obtain ⟨q0,q1,q2,q3⟩:=hv2;have hs2:=hx2.grown.size;simp at hs2;replace hs2:w.heap.size < w2.heap.size:=by omega) | (go_at_call 111;refine (text_any _ B _ _ _ ?_ ho2 ?_ ?_).mono ?_;(· omega);(· simp;omega);(· omega);rintro e w3 ⟨v3,rfl,ho3,hx3⟩))
      go_ret
      exact ⟨_,rfl,by simpa [enc0] using ho3,((hxw.alloc _).trans hx2).trans hx3⟩
    · obtain rfl:k=5:=h
      replace h1:s.length≤200:=h1
      go_wp2_with (first | (refine app_bytes rfl (.tmp 9) (.tmp 13) rfl rfl (howx.alloc _) rfl (Sl.new1 _ _ _ 5 rfl) ?_ ?_ ?_;(· simp;omega);(· simp;omega);intro v2 w2 ho2 hx2;have hv2:=(hv.below ((Below.refl _ _).alloc (Nat.le_refl _) _) hlt).ext hx2 (by simp;omega) hne;simp only [ValAt,Nat.zero_add] at hv2;obtain ⟨q0,q1,q2,q3⟩:=hv2;have hs2:=hx2.grown.size;simp at hs2;replace hs2:w.heap.size < w2.heap.size:=by omega) | (go_at_call 111;refine (text_any _ B _ _ _ ?_ ho2 ?_ ?_).mono ?_;(· omega);(· simp;omega);(· omega);rintro e w3 ⟨v3,rfl,ho3,hx3⟩))
      go_ret
      exact ⟨_,rfl,by simpa [enc0] using ho3,((hxw.alloc _).trans hx2).trans hx3⟩
theorem enc_length (x:Val):(enc x).length≤500:=by
 unfold enc
 have hcs:=right_cases (right_plain x)
 generalize plain x=y at *
 have he:=escTo_length y.s
 have h8:(be8 y.n).length=8:=by simp[be8,beTo_length]
 unfold enc0
 rcases hcs with h|⟨h,_,_⟩|h|⟨h,_,_⟩|⟨h,_⟩|⟨h,_⟩<;>simp[h,h8]<;>omega
theorem encs_append (a b:List Val):encs (a++b)=encs a++encs b:=by simp[encs]
theorem encs_length (l:List Val):(encs l).length≤500 * l.length:=by
 induction l with
 |nil=>simp[encs]
 |cons a l ih=>rw[show encs (a::l)=enc a++encs l from rfl,List.length_append,List.length_cons];have:=enc_length a;omega
theorem encs_succ {l:List Val}{k:Nat}{x:Val}(h:l[k]? = some x):encs (l.take (k+1))=encs (l.take k)++enc x:=by
 have hk:k<l.length:=by
  rcases Nat.lt_or_ge k l.length with h' | h'
  ·exact h'
  ·rw[List.getElem?_eq_none h'] at h;cases h
 have hd:l[k]=x:=by rw[List.getElem?_eq_getElem hk] at h;injection h
 rw[List.take_succ_eq_append_getElem hk,encs_append,hd]
 simp[encs]
def NewBytes (w:World)(l:List UInt8):Ending→World→Prop:=fun e w'=>∃ A c,e=.returned (.slice A l.length c)∧OwnB w' w.heap.size (.slice A l.length c) l∧Sl w' 1 A l.length c (bvs l)∧Below w.heap.size w w'
set_option maxHeartbeats 400000 in
theorem keysPut_any (w:World) (A:Option Addr) (n c:Nat) (l:List Val) (hs:Sl w 4 A n c (vcs l)) (hn:n≤100000) (hT:Tabs w) :
  Calls Tryz.prog 49 #[.slice A n c] w (NewBytes w (encs l)):=by
 have hlen:=hs.vlen
 subst hlen
 go_enter Tryz.func49,Tryz.ntmps49
 go_wp2_with fail
 go_loopw [3,8] (fun v1 i wr=>∃ k:Nat,k≤l.length∧i=.int .i64 (k:Int)∧OwnB wr w.heap.size v1 (encs (l.take k))∧Below w.heap.size w wr) (fun _ i _=>l.length-(intOf i).toNat)
 case atStart=>exact⟨0,by omega,rfl,OwnB.nil _ _,Below.refl _ _⟩
 case round =>
  obtain⟨k,hk,rfl,ho,hb⟩:=hrel
  have hel:=encs_length (l.take k)
  rw[List.length_take] at hel
  by_cases hlt:k<l.length
  ·obtain⟨b,o,x,rfl,hblt,hx,q0,q1,q2,q3⟩:=(hs.below hb (Nat.le_refl _)).val hlt
   have hlt':(k:Int)<(l.length:Int):=by omega
   have hsucc:=hide (encs_succ hx)
   have hTr:=hT.below hb
   have hbs:=hb.size
   clear hs hx hT
   go_wp2_with (go_at_call 79;refine (put_any _ w.heap.size _ _ x ?_ (ho.alloc _) ?_ ?_).mono ?_;(· simp;omega);(· omega);(· exact hTr.below ((Below.refl _ _).alloc (Nat.le_refl _) _));rintro e w3 ⟨v3,rfl,ho3,hx3⟩)
   go_roundw
   case rel=>exact⟨k+1,by omega,by go_num,by rw[unhide hsucc];exact ho3,hb.trans (Below.trans ((Below.refl _ _).alloc (by omega) _) (hx3.below (by simp;omega) (own_lies ho)))⟩
   case measure=>exact (by first|(simp[intOf];done)|(simp[intOf];omega))
  ·obtain rfl:k=l.length:=by omega
   have ht:l.take l.length=l:=List.take_of_length_le (Nat.le_refl _)
   rw[ht] at ho
   clear ht hs hT
   go_wp2_with fail
   go_ret
   obtain⟨A',c',hv,hs'⟩:=ho.form
   subst hv
   exact⟨A',c',rfl,ho,hs',hb⟩
theorem bvs_drop (l:List UInt8)(k:Nat):bvs (l.drop k)=(bvs l).drop k:=by simp[bvs]
theorem Sl.none_len {w:World}{size n c:Nat}{xs:List Value}(h:Sl w size none n c xs):n=0:=by
 rcases Nat.eq_zero_or_pos n with h0|h0
 ·exact h0
 ·obtain⟨_,_,e,_⟩:=h.at_ h0
  cases e
set_option maxHeartbeats 400000 in
theorem clone_any (w:World) (A:Option Addr) (n c:Nat) (l:List UInt8) (hs:Sl w 1 A n c (bvs l)) (hn:n≤100000000000) :
  Calls Tryz.prog 80 #[.slice A n c] w (NewBytes w l):=by
 have hlen:=hs.blen
 rcases A with _|ad
 ·have hn0:=hs.none_len
  subst hn0
  have:l=[]:=List.eq_nil_of_length_eq_zero hlen
  subst this
  have hnil:=@Lib.run_eql_slice_nil Tryz.prog
  go_enter Tryz.func80,Tryz.ntmps80
  go_wp2_with fail
  go_ret
  exact⟨none,0,rfl,OwnB.nil _ _,Sl.zero _ _ _ _ (by simp[maxLen]),Below.refl _ _⟩
 ·have hnil:=@Lib.run_eql_slice_nil Tryz.prog
  go_enter Tryz.func80,Tryz.ntmps80
  go_wp2_with (refine app_bytes rfl (.tmp 5) (.tmp 6) rfl rfl (B:=w.heap.size) (l:=[]) ?_ rfl (hs.alloc _) ?_ ?_ ?_;(· exact World.ownsRow_lit (base:=w.heap.size) (e:=5) (size:=1) w #[] 0 (Nat.le_refl _) (by simp[maxLen]) rfl);(· simp;omega);(· simp);intro v2 w2 ho2 hx2)
  go_ret
  obtain⟨A',c',hv,hs'⟩:=ho2.form
  subst hv
  simp only[List.nil_append] at ho2 hs'
  exact⟨A',c',rfl,ho2,hs',Below.trans ((Below.refl _ _).alloc (Nat.le_refl _) _) (hx2.below (by simp) (fun k hk=>by have h2:some w.heap.size=some k:=hk;injection h2 with h2;omega))⟩
def deTo (l:List UInt8)(k:Nat):Nat:=(l.take k).foldl (fun u c=>u * 256+c.toNat) 0
theorem deTo_succ {l:List UInt8}{k:Nat}{x:UInt8}(h:l[k]? = some x):deTo l (k+1)=deTo l k * 256+x.toNat:=by
 have hk:k<l.length:=by
  rcases Nat.lt_or_ge k l.length with h' | h'
  ·exact h'
  ·rw[List.getElem?_eq_none h'] at h;cases h
 have hd:l[k]=x:=by rw[List.getElem?_eq_getElem hk] at h;injection h
 unfold deTo
 rw[List.take_succ_eq_append_getElem hk,List.foldl_append,hd]
 rfl
theorem deTo_lt (l:List UInt8):∀ k,deTo l k<256^k:=by
 intro k
 induction k with
 |zero=>simp[deTo]
 |succ k ih =>
  rcases hx:l[k]? with _|x
  ·have hl:=List.getElem?_eq_none_iff.1 hx
   have:deTo l (k+1)=deTo l k:=by unfold deTo;rw[List.take_of_length_le (by omega),List.take_of_length_le hl]
   rw[this,Nat.pow_succ]
   omega
  ·rw[deTo_succ hx,Nat.pow_succ]
   have:=x.toNat_lt
   omega
theorem or_u64 (U x:Nat)(h:U≤72057594037927935)(hx:x<256):bits BinOp.or IntKind.u64 ((U:Int) * 256) (x:Int)=((U * 256+x:Nat):Int):=by
 have h1:(BitVec.ofInt 64 ((U:Int) * 256)).toNat=2^8 * U:=by
  rw[show (U:Int) * 256=((2^8 * U:Nat):Int) by omega,BitVec.ofInt_natCast,BitVec.toNat_ofNat];exact Nat.mod_eq_of_lt (by omega)
 have h2:(BitVec.ofInt 64 (x:Int)).toNat=x:=by rw[BitVec.ofInt_natCast,BitVec.toNat_ofNat];exact Nat.mod_eq_of_lt (by omega)
 have e:bits BinOp.or IntKind.u64 ((U:Int) * 256) (x:Int)=IntKind.u64.wrap ((BitVec.ofInt 64 ((U:Int) * 256) ||| BitVec.ofInt 64 (x:Int)).toNat:Int):=rfl
 rw[e,BitVec.toNat_or,h1,h2,← Nat.two_pow_add_eq_or_of_lt (by omega),IntKind.wrap_u64]
 omega
theorem back_i64 (U:Nat)(h:U<18446744073709551616):RowKit.wrap64 (bits BinOp.xor IntKind.u64 (U:Int) 9223372036854775808)=(U:Int)-9223372036854775808:=by
 have h1:=xor_u64_top (U:Int)
 have h2:IntKind.u64.wrap (U:Int)=U:=by rw[IntKind.wrap_u64];omega
 rw[h2] at h1
 rw[h1]
 unfold flipN RowKit.wrap64
 omega
theorem bdrewN {B:Nat}{a w:World}(h:Below B a w)(n:Nat):Below B a (w.drewN n):=h.trans ⟨rfl,rfl,rfl,Nat.le_refl _,fun _ _=>rfl⟩
set_option maxHeartbeats 400000 in
theorem eight_any (u w:World) (A:Option Addr) (n c:Nat) (l:List UInt8) (hsu:Sl u 1 A n c (bvs l)) (hu:Below u.heap.size u w) (hn:8≤n) :
  Calls Tryz.prog 146 #[.slice A n c] w fun e w'=>∃ A' c',e=.returned (.tuple #[.int .i64 ((deTo l 8:Int)-9223372036854775808),.slice A' (n-8) c',.bool true])∧Sl u 1 A' (n-8) c' (bvs (l.drop 8))∧Below w.heap.size w w':=by
 have hs:=hsu.mono hu
 have hn':(8:Int)≤(n:Int):=by omega
 have hc:=hs.nc
 have hm:=hs.cm
 unfold maxLen at hm
 have Hs:=hide hs
 have Hu:=hide hsu
 clear hs hsu hu
 go_enter Tryz.func146,Tryz.ntmps146
 go_wp2_with fail
 go_loop [5,14] (fun u i=>∃ k:Nat,k≤8∧i=.int .i64 (k:Int)∧u=.int .u64 (deTo l k:Nat)) (fun _ i=>8-(intOf i).toNat)
 case atStart=>exact⟨0,by omega,rfl,rfl⟩
 case round =>
  obtain⟨k,hk,rfl,rfl⟩:=hrel
  by_cases hlt:k<8
  ·obtain⟨b,o,x,hA,hblt,hx,hcell⟩:=(unhide Hs).byte (show k<n by omega)
   subst hA
   have hlt':(k:Int)<8:=by omega
   have hs1:=deTo_succ hx
   have hlt7:deTo l k≤72057594037927935:=by
    have h1:=deTo_lt l k
    have h2:256^k≤256^7:=Nat.pow_le_pow_right (by omega) (by omega)
    simp only[Nat.reducePow] at h2
    omega
   have HS:=hide hs1
   clear hs1
   generalize deTo l k=U at HS hlt7 ⊢
   have hor:=or_u64 U x.toNat hlt7 x.toNat_lt
   have u0:(0:Int)≤(U:Int) * 256:=by omega
   have u1:(U:Int) * 256≤18446744073709551615:=by omega
   have b0:(0:Int)≤(x.toNat:Int):=by omega
   have b1:(x.toNat:Int)<256:=by have:=x.toNat_lt;omega
   clear hx hlt7
   go_wp2_with fail
   exact⟨⟨k+1,by omega,by go_num,by rw[unhide HS];go_num⟩,by simp[intOf];omega⟩
  ·obtain rfl:k=8:=by omega
   have hlt8:=deTo_lt l 8
   have hback:=back_i64 (deTo l 8) (by simpa using hlt8)
   have HB:=hide hback
   clear hback hlt8
   go_wp2_with fail
   go_quiet (fail)
   go_wp2_with fail
   all_goals
    refine bodyPost_ret (results_tmp3 rfl _ _ _) rfl ⟨_,_,by rw[← unhide HB];rfl,?_,bdrewN (Below.refl _ _) _⟩
    have hcut:=(unhide Hu).cut hn
    simp only[Nat.mul_one] at hcut
   ·subst h
    rw[bvs_drop]
    simpa using hcut
   ·rw[if_neg h] at hcut
    rw[bvs_drop]
    simpa [Addr.add] using hcut
set_option maxHeartbeats 400000 in
theorem eight_short (w:World) (A:Option Addr) (n c:Nat) (hn:n<8) :
  Calls Tryz.prog 146 #[.slice A n c] w fun e w'=>e=.returned (.tuple #[.int .i64 0,.slice none 0 0,.bool false])∧w=w':=by
 have hn':(n:Int)<8:=by omega
 go_enter Tryz.func146,Tryz.ntmps146
 go_wp2_with fail
 refine bodyPost_ret (results_tmp3 rfl _ _ _) rfl ⟨rfl,rfl⟩
def untext:List UInt8→Option (List UInt8×List UInt8)
 |[]=>none
 |[_]=>none
 |c::d::t=>if c=0 then (if d=255 then (untext t).map (fun p=>(0::p.1,p.2)) else if d=1 then some ([],t) else none)
   else (untext (d::t)).map (fun p=>(c::p.1,p.2))
theorem untext_ne {c:UInt8}(t:List UInt8)(h:c≠0):untext (c::t)=(untext t).map (fun p=>(c::p.1,p.2)):=by
 cases t with
 |nil=>simp[untext]
 |cons d t=>rw[untext,if_neg h]
theorem untext_end:untext [0]=none:=by simp[untext]
theorem untext_esc (t:List UInt8):untext (0::255::t)=(untext t).map (fun p=>(0::p.1,p.2)):=by rw[untext,if_pos rfl,if_pos rfl]
theorem untext_one (t:List UInt8):untext (0::1::t)=some ([],t):=by rw[untext,if_pos rfl,if_neg (by decide),if_pos rfl]
theorem untext_bad {d:UInt8}(t:List UInt8)(h1:d≠255)(h2:d≠1):untext (0::d::t)=none:=by rw[untext,if_pos rfl,if_neg h1,if_neg h2]
def Untexted (u w:World)(r:Option (List UInt8×List UInt8)):Ending→World→Prop:=fun e w'=>Below w.heap.size w w'∧match r with
 |none=>e=.returned (.tuple #[.string ⟨#[]⟩,.slice none 0 0,.bool false])
 |some (t,rest)=>∃ A c,e=.returned (.tuple #[.string ⟨t.toArray⟩,.slice A rest.length c,.bool true])∧Sl u 1 A rest.length c (bvs rest)
theorem drop_cons {l:List UInt8}{k:Nat}{x:UInt8}(h:l[k]? = some x):l.drop k=x::l.drop (k+1):=by
 have hk:k<l.length:=by
  rcases Nat.lt_or_ge k l.length with h' | h'
  ·exact h'
  ·rw[List.getElem?_eq_none h'] at h;cases h
 rw[List.drop_eq_getElem_cons hk]
 congr 1
 rw[List.getElem?_eq_getElem hk] at h;injection h
theorem beq_u8 {x:UInt8}{n:Nat}(hn:n<256)(h:x≠UInt8.ofNat n):((x.toNat:Int)==(n:Int))=false:=by
 rw[beq_eq_false_iff_ne]
 intro e
 apply h
 apply UInt8.toNat_inj.1
 rw[UInt8.toNat_ofNat']
 omega
set_option maxHeartbeats 1000000 in
theorem untext_any (u w:World) (A:Option Addr) (n c:Nat) (l:List UInt8) (hsu:Sl u 1 A n c (bvs l)) (hu:Below u.heap.size u w) (hn:n≤100000000000) :
  Calls Tryz.prog 147 #[.slice A n c] w (Untexted u w (untext l)):=by
 have hs:=hsu.mono hu
 have Hu:=hide hsu
 clear hsu hu
 obtain⟨ANS,hA⟩:∃ r,untext l=r:=⟨_,rfl⟩
 rw[hA]
 have hlen:=hs.blen
 have HA:=hide hA
 clear hA
 have hnc:=hs.nc
 go_enter Tryz.func147,Tryz.ntmps147
 go_wp2_with fail
 go_loopw [5,6] (fun v i wr=>∃ (k:Nat) (o:List UInt8),k≤n∧i=.int .i64 (k:Int)∧o.length≤k∧OwnB wr w.heap.size v o∧Below w.heap.size w wr∧Hid ((untext (l.drop k)).map (fun p=>(o++p.1,p.2))=ANS)) (fun _ i _=>n-(intOf i).toNat)
 case atStart=>exact⟨0,[],by omega,rfl,by simp,OwnB.nil _ _,Below.refl _ _,hide (by rw[← unhide HA];simp)⟩
 case round =>
  obtain⟨k,o,hk,rfl,hol,ho,hb,hv⟩:=hrel
  clear HA
  have hbs:=hb.size
  by_cases hlt:k<n
  ·have hsr:=hs.below hb (Nat.le_refl _)
   obtain⟨b,off,x,hA,hblt,hx,hcell⟩:=hsr.byte hlt
   subst hA
   have hlt':(k:Int)<(n:Int):=by omega
   have hd:=drop_cons hx
   rw[hd] at hv
   have b0:(0:Int)≤(x.toNat:Int):=by omega
   have b1:(x.toNat:Int)<256:=by have:=x.toNat_lt;omega
   clear hd hx
   by_cases hx0:x=0
   ·have hz:(x.toNat:Int)=0:=by rw[hx0];rfl
    subst hx0
    rw[hz] at hcell
    clear hz b0 b1
    by_cases hlt2:k+1<n
    ·obtain⟨b2,off2,y,hA,_,hy,hcell2⟩:=hsr.byte hlt2
     injection hA with hA
     injection hA with hA1 hA2
     subst hA1
     subst hA2
     have hd:=drop_cons hy
     rw[hd] at hv
     have hlt2':(k:Int)+1<(n:Int):=by omega
     have c0:(0:Int)≤(y.toNat:Int):=by omega
     have c1:(y.toNat:Int)<256:=by have:=y.toNat_lt;omega
     clear hd hy hsr
     by_cases h255:y=255
     ·subst h255
      have hc2:wr.cell? ⟨b,off+(k+1),none⟩=some (.int .u8 255):=hcell2
      clear c0 c1 hcell2
      go_wp2_with (refine app_bytes rfl (.tmp 39) (.tmp 40) rfl rfl (ho.alloc _) rfl (Sl.new1 _ _ _ 0 rfl) ?_ ?_ ?_;(· simp;omega);(· simp;omega);intro v2 w2 ho2 hx2)
      go_roundw
      case rel=>exact⟨k+2,o++[0],by omega,by go_num,by simp;omega,ho2,hb.trans (Below.trans ((Below.refl _ _).alloc (by omega) _) (hx2.below (by simp;omega) (own_lies ho))),hide (by
       have:=unhide hv
       rw[untext_esc] at this
       rw[← this]
       simp[Option.map_map,Function.comp_def])⟩
      case measure=>exact (by first|(simp[intOf];done)|(simp[intOf];omega))
     by_cases h1:y=1
     ·subst h1
      have hc2:wr.cell? ⟨b,off+(k+1),none⟩=some (.int .u8 1):=hcell2
      clear c0 c1 hcell2 h255
      obtain⟨A',c',hvv,hs'⟩:=ho.form
      subst hvv
      have hconv:∀ q,(convert 108 9 (.slice A' o.length c')).run Tryz.prog (wr.drewN q)=.ok (.string ⟨o.toArray⟩) (wr.drewN q):=fun q =>
       run_sl_string _ _ _ _ Tryz.underlying108 Tryz.underlying5 Tryz.underlying9 A' _ c' o (hs'.drewN q)
      go_wp2_with fail
      have hk2:(k:Int)+1+1≤(n:Int):=by omega
      have hcn:(n:Int)≤(c:Int):=by omega
      have hend:ANS=some (o,l.drop (k+1+1)):=by
       have:=unhide hv
       rw[untext_one] at this
       rw[← this]
       simp
      have hcut:=(unhide Hu).cut (show k+1+1≤n by omega)
      have hrl:(l.drop (k+1+1)).length=n-(k+1+1):=by rw[List.length_drop,hlen]
      subst hend
      have HC:=hide hcut
      have HR:=hide hrl
      clear hcut hrl hs
      go_quiet (fail)
      go_wp2_with fail
      all_goals
       refine bodyPost_ret (results_tmp3 rfl _ _ _) rfl ⟨bdrewN hb _,?_⟩
       have hcut:=unhide HC
       have hrl:=unhide HR
       simp only[Nat.mul_one] at hcut
      ·refine⟨some ⟨b,off,none⟩,0,by rw[hrl];rfl,?_⟩
       rw[hrl,bvs_drop]
       rw[if_pos h] at hcut
       simpa [h] using hcut
      ·refine⟨some ⟨b,off+(k+1+1),none⟩,c-(k+1+1),by rw[hrl];rfl,?_⟩
       rw[hrl,bvs_drop]
       rw[if_neg h] at hcut
       simpa [Addr.add] using hcut
     ·have hend:ANS=none:=by
       have:=unhide hv
       rw[untext_bad _ h255 h1] at this
       rw[← this]
       rfl
      subst hend
      have e1:((y.toNat:Int)==255)=false:=beq_u8 (n:=255) (by omega) h255
      have e2:((y.toNat:Int)==1)=false:=beq_u8 (n:=1) (by omega) h1
      clear h255 h1 hs
      go_wp2_with fail
      refine bodyPost_ret (results_tmp3 rfl _ _ _) rfl ⟨hb,rfl⟩
    ·have hlt2':(n:Int)≤(k:Int)+1:=by omega
     have hend:ANS=none:=by
      have:=unhide hv
      rw[List.drop_of_length_le (by omega),untext_end] at this
      rw[← this]
      rfl
     subst hend
     clear hs hv hsr hlt2 hlen hol
     go_wp2_with fail
     refine bodyPost_ret (results_tmp3 rfl _ _ _) rfl ⟨hb,rfl⟩
   ·have hz:((x.toNat:Int) != 0)=true:=by have:=beq_u8 (n:=0) (by omega) hx0;rw[bne,show ((x.toNat:Int)==0)=false from this];rfl
    have hv':=hide (by have:=unhide hv;rw[untext_ne _ hx0] at this;exact this:(Option.map (fun p=>(x::p.1,p.2)) (untext (l.drop (k+1)))).map (fun p=>(o++p.1,p.2))=ANS)
    clear hx0 hs hsr hv
    go_wp2_with (refine app_bytes rfl (.tmp 18) (.tmp 23) rfl rfl (ho.alloc _) rfl (Sl.new1 _ _ _ x rfl) ?_ ?_ ?_;(· simp;omega);(· simp;omega);intro v2 w2 ho2 hx2)
    go_roundw
    case rel=>exact⟨k+1,o++[x],by omega,by go_num,by simp;omega,ho2,hb.trans (Below.trans ((Below.refl _ _).alloc (by omega) _) (hx2.below (by simp;omega) (own_lies ho))),hide (by
     rw[← unhide hv']
     simp[Option.map_map,Function.comp_def])⟩
    case measure=>exact (by first|(simp[intOf];done)|(simp[intOf];omega))
  ·obtain rfl:k=n:=by omega
   have hend:ANS=none:=by
    have:=unhide hv
    rw[List.drop_of_length_le (by omega)] at this
    rw[← this]
    rfl
   subst hend
   clear hs hv
   go_wp2_with fail
   refine bodyPost_ret (results_tmp3 rfl _ _ _) rfl ⟨hb,rfl⟩
def nextS:List UInt8→Option (Val×List UInt8)
 |[]=>none
 |t::r =>
  if t=0 then some (⟨0,0,0,[]⟩,r)
  else if t=1 then (match r with|[]=>none|h::r'=>some (⟨1,h.toNat,0,[]⟩,r'))
  else if t=2 then (if r.length<8 then none else some (⟨2,(deTo r 8:Int)-9223372036854775808,0,[]⟩,r.drop 8))
  else if t=3 then (match r with|[]=>none|h::r'=>if r'.length<8 then none else some (⟨3,(deTo r' 8:Int)-9223372036854775808,h.toNat,[]⟩,r'.drop 8))
  else if t=4∨t=5 then (untext r).map (fun p=>(⟨t.toNat,0,0,p.1⟩,p.2))
  else none
def Nexted (u w:World)(r:Option (Val×List UInt8)):Ending→World→Prop:=fun e w'=>Below w.heap.size w w'∧match r with
 |none=>∃ (x:Val) (A:Option Addr) (n c:Nat),e=.returned (.tuple #[.agg #[.int .i64 x.kind,.int .i64 x.n,.int .i64 x.scale,.string ⟨x.s.toArray⟩],.slice A n c,.bool false])
 |some (x,rest)=>∃ A c,e=.returned (.tuple #[.agg #[.int .i64 x.kind,.int .i64 x.n,.int .i64 x.scale,.string ⟨x.s.toArray⟩],.slice A rest.length c,.bool true])∧Sl u 1 A rest.length c (bvs rest)
theorem untext_len:∀ (k:Nat) (l:List UInt8),l.length≤k→∀ t r,untext l=some (t,r)→r.length+t.length+2≤l.length:=by
 intro k
 induction k with
 |zero =>
  intro l hl t r h
  have:l=[]:=List.eq_nil_of_length_eq_zero (by omega)
  subst this
  simp[untext] at h
 |succ k ih =>
  intro l hl t r h
  match l,hl,h with
  |[],_,h=>simp[untext] at h
  |[c],_,h=>simp[untext] at h
  |c::d::l,hl,h =>
   simp only[List.length_cons] at hl ⊢
   rw[untext] at h
   split at h
   ·split at h
    ·obtain⟨p,hp,he⟩:=Option.map_eq_some_iff.1 h
     have:=ih l (by omega) _ _ hp
     simp only[Prod.mk.injEq] at he
     obtain⟨rfl,rfl⟩:=he
     simp only[List.length_cons]
     omega
    ·split at h
     ·simp only[Option.some.injEq,Prod.mk.injEq] at h
      obtain⟨rfl,rfl⟩:=h
      simp
     ·cases h
   ·obtain⟨p,hp,he⟩:=Option.map_eq_some_iff.1 h
    have:=ih (d::l) (by simpa using hl) _ _ hp
    simp only[Prod.mk.injEq] at he
    obtain⟨rfl,rfl⟩:=he
    simp only[List.length_cons] at this ⊢
    omega
theorem nextS_len {l:List UInt8}{x:Val}{r:List UInt8}(h:nextS l=some (x,r)):r.length<l.length:=by
 match l,h with
 |[],h=>simp[nextS] at h
 |t::r0,h =>
  simp only[List.length_cons]
  unfold nextS at h
  dsimp only at h
  split at h
  ·simp only[Option.some.injEq,Prod.mk.injEq] at h
   rw[← h.2];omega
  split at h
  ·split at h
   ·cases h
   ·simp only[Option.some.injEq,Prod.mk.injEq] at h
    rw[← h.2];simp only[List.length_cons];omega
  split at h
  ·split at h
   ·cases h
   ·simp only[Option.some.injEq,Prod.mk.injEq] at h
    rw[← h.2,List.length_drop];omega
  split at h
  ·split at h
   ·cases h
   ·split at h
    ·cases h
    ·simp only[Option.some.injEq,Prod.mk.injEq] at h
     rw[← h.2,List.length_drop];simp only[List.length_cons];omega
  split at h
  ·obtain⟨p,hp,he⟩:=Option.map_eq_some_iff.1 h
   have:=untext_len _ _ (Nat.le_refl _) _ _ hp
   simp only[Prod.mk.injEq] at he
   rw[← he.2];omega
  ·cases h
theorem OwnB.setBelow {w:World}{B:Nat}{v:Value}{l:List UInt8}(h:OwnB w B v l){a:Addr}(ha:a.block<B)(u:Value):OwnB (w.setCell a u) B v l:=ownsRow_setCell_below h ha u
theorem OwnB.sl {w:World}{B:Nat}{A:Option Addr}{n c:Nat}{l:List UInt8}(h:OwnB w B (.slice A n c) l):Sl w 1 A n c (bvs l):=by
 obtain⟨A',c',e,hs⟩:=h.form
 injection e with e1 e2 e3
 rw[e1,e2,e3]
 exact hs
def Loc (w:World)(g:Nat)(x:Val):Prop:=w.heap[g]? = some (.cells #[.int .i64 x.kind,.int .i64 x.n,.int .i64 x.scale,.string ⟨x.s.toArray⟩] 54 (0,0))
theorem Loc.new (w:World)(x:Val):Loc (w.alloc (.cells #[.int .i64 x.kind,.int .i64 x.n,.int .i64 x.scale,.string ⟨x.s.toArray⟩] 54)) w.heap.size x:=heap_alloc_new w _
theorem Loc.lt {w:World}{g:Nat}{x:Val}(h:Loc w g x):g<w.heap.size:=lt_of_block h
theorem Loc.below {w w':World}{g B:Nat}{x:Val}(h:Loc w g x)(hb:Below B w w')(hg:g<B):Loc w' g x:=(hb.block g hg).trans h
theorem Loc.alloc {w:World}{g:Nat}{x:Val}(h:Loc w g x)(o:Obj):Loc (w.alloc o) g x:=(Below.heap_alloc w o g h.lt).trans h
theorem Loc.facts {w:World}{g:Nat}{x:Val}(h:Loc w g x):w.cell? ⟨g,0,none⟩=some (.int .i64 x.kind)∧w.cell? ⟨g,1,none⟩=some (.int .i64 x.n)∧w.cell? ⟨g,2,none⟩=some (.int .i64 x.scale)∧w.cell? ⟨g,3,none⟩=some (.string ⟨x.s.toArray⟩)∧(∀ o,w.frozen? ⟨g,o,none⟩=false)∧g<w.heap.size:=by
 have hl:=h.lt
 unfold Loc at h
 refine⟨?_,?_,?_,?_,fun o=>?_,hl⟩<;>simp[World.cell?,World.frozen?,h]
theorem Loc.store {w:World}{g:Nat}{x:Val}(h:Loc w g x)(y:Val):Loc ((((w.setCell ⟨g,0,none⟩ (.int .i64 y.kind)).setCell ⟨g,1,none⟩ (.int .i64 y.n)).setCell ⟨g,2,none⟩ (.int .i64 y.scale)).setCell ⟨g,3,none⟩ (.string ⟨y.s.toArray⟩)) g y:=by
 unfold Loc at h ⊢
 simp[World.setCell,Array.getElem?_modify,h]
theorem Loc.valAt {w:World}{g:Nat}{x:Val}(h:Loc w g x):ValAt w g 0 x:=by
 obtain⟨h0,h1,h2,h3,_⟩:=h.facts
 simp only[ValAt,Nat.zero_add]
 exact⟨h0,h1,h2,h3⟩
theorem cell_far {w:World}{p:Addr}{h o:Nat}{u:Value}(hne:h≠p.block):(w.setCell p u).cell? ⟨h,o,none⟩=w.cell? ⟨h,o,none⟩ :=
 World.cell?_of_block (a:=⟨h,o,none⟩) (Below.heap_setCell w p u h hne)
theorem cell_sets {w:World}{g h o:Nat}{a b c d:Value}(hne:h≠g):((((w.setCell ⟨g,0,none⟩ a).setCell ⟨g,1,none⟩ b).setCell ⟨g,2,none⟩ c).setCell ⟨g,3,none⟩ d).cell? ⟨h,o,none⟩=w.cell? ⟨h,o,none⟩:=by
 rw[cell_far hne,cell_far hne,cell_far hne,cell_far hne]
theorem res_val_tt {fn:Func}{p q r:Tmp}(h:fn.results=#[.cell p 54,.tmp q,.tmp r]){tmps:Array Value}{w:World}{g:Nat}{x:Val}
  (hp:tmps.getD p undef=.pointer (some ⟨g,0,none⟩)) (hv:ValAt w g 0 x):(results fn tmps).run Tryz.prog w=.ok (.tuple #[.agg #[.int .i64 x.kind,.int .i64 x.n,.int .i64 x.scale,.string ⟨x.s.toArray⟩],tmps.getD q undef,tmps.getD r undef]) w:=by
 simp only[ValAt,Nat.zero_add] at hv
 obtain⟨h0,h1,h2,h3⟩:=hv
 rw[Array.getD_eq_getD_getElem?] at hp
 simp[results,h,go_sem,hp,h0,h1,h2,h3]
theorem wrap_byte (t:UInt8):IntKind.i64.wrap (t.toNat:Int)=t.toNat:=by have:=t.toNat_lt;rw[IntKind.wrap_i64];omega
set_option maxRecDepth 100000 in
set_option maxHeartbeats 1000000 in
theorem next_any (u w:World) (A:Option Addr) (n c:Nat) (l:List UInt8) (hsu:Sl u 1 A n c (bvs l)) (hu:Below u.heap.size u w) (hn:n≤100000000000) (h0:0<n) :
  Calls Tryz.prog 141 #[.slice A n c] w (Nexted u w (nextS l)):=by
 have hs:=hsu.mono hu
 obtain⟨ANS,hA⟩:∃ r,nextS l=r:=⟨_,rfl⟩
 rw[hA]
 have hlen:=hs.blen
 have hnc:=hs.nc
 obtain⟨m,hm⟩:∃ m,n-1=m:=⟨n-1,rfl⟩
 obtain⟨b,off,t,hA',hblt,ht,hcell⟩:=hs.byte h0
 subst hA'
 have hd:=drop_cons ht
 simp only[List.drop_zero] at hd
 obtain⟨A1,hA1⟩:∃ A1,(if c=1 then some (⟨b,off,none⟩:Addr) else some ⟨b,off+1,none⟩)=A1:=⟨_,rfl⟩
 have hr:Sl u 1 A1 m (c-1) (bvs (l.drop 1)):=by
  have:=hsu.cut (show 1≤n by omega)
  rw[hm] at this
  rw[bvs_drop,← hA1]
  simpa [Addr.add] using this
 have hrl:(l.drop 1).length=m:=by rw[List.length_drop];omega
 simp only[Nat.zero_add] at hd
 generalize l.drop 1=r at hr hrl hd
 subst hd
 have hc1:(1:Int)≤(c:Int):=by omega
 have b0:(0:Int)≤(t.toNat:Int):=by omega
 have b1:(t.toNat:Int)<256:=by have:=t.toNat_lt;omega
 simp only[Nat.add_zero] at hcell
 have HA:=hide hA
 have HA1:=hide hA1
 have Hs:=hide hr
 have HL:=hide hrl
 have hbig:m≤100000000000:=by omega
 have hn1:(0:Int)<(n:Int):=by omega
 have hn2:(1:Int)≤(n:Int):=by omega
 have hn3:(n:Int)≤(c:Int):=by omega
 have HM:=hide hm
 clear hsu hs hA hA1 hr hrl hlen ht hn hnc hm
 have HU:Hid (u.heap.size≤w.heap.size):=hide hu.size
 have Hu:=hide hu
 clear hu
 go_enter Tryz.func141,Tryz.ntmps141
 go_wp2_with fail
 go_region_held3 (fun w'=>w'.cell? ⟨b,off,none⟩=some (.int .u8 (t.toNat:Int))) (go_keep) (fail)
 rw[unhide HA1,unhide HM,wrap_byte]
 clear hcell hn1 hn2 hn3 h0
 have hbw:Below w.heap.size w (w.alloc (.cells #[.int .i64 (t.toNat:Int),.int .i64 0,.int .i64 0,.string ⟨#[]⟩] 54)).drew:=((Below.refl _ _).alloc (Nat.le_refl _) _).drew
 by_cases t0:t=0
 ·have hz:(t.toNat:Int)=0:=by rw[t0];rfl
  have hend:ANS=some (⟨0,0,0,[]⟩,r):=by rw[← unhide HA];simp[nextS,t0]
  subst hend
  clear t0 b0 b1
  go_wp2_with fail
  refine bodyPost_ret (res_val_tt (x:=⟨0,0,0,[]⟩) rfl rfl (by simp[ValAt,go_sem])) rfl ⟨(by repeat (first|with_reducible exact Below.refl _ _|with_reducible assumption|((with_reducible refine Below.alloc ?_ ?_ _);rotate_left;(first|exact Nat.le_refl _|(simp;done)|(simp;omega)|omega))|((with_reducible refine Below.setCell ?_ ?_ _);rotate_left;(first|exact Nat.le_refl _|(simp;done)|(simp;omega)|omega))|(with_reducible refine Below.drew ?_)|(with_reducible refine Go.RowKit.below_drewN ?_ _))),A1,c-1,by rw[unhide HL];rfl,?_⟩
  rw[unhide HL]
  exact unhide Hs
 by_cases t1:t=1
 ·have hz:(t.toNat:Int)=1:=by rw[t1];rfl
  clear t0 b0 b1
  rcases r with _|⟨d,r'⟩
  ·have hend:ANS=none:=by rw[← unhide HA];simp[nextS,t1]
   subst hend
   have hm0:((m:Int)==0)=true:=by have:=unhide HL;simp at this;subst this;rfl
   clear t1
   go_wp2_with fail
   exact bodyPost_ret (res_val_tt (x:=⟨1,0,0,[]⟩) rfl rfl (by simp[ValAt,go_sem])) rfl ⟨(by repeat (first|with_reducible exact Below.refl _ _|with_reducible assumption|((with_reducible refine Below.alloc ?_ ?_ _);rotate_left;(first|exact Nat.le_refl _|(simp;done)|(simp;omega)|omega))|((with_reducible refine Below.setCell ?_ ?_ _);rotate_left;(first|exact Nat.le_refl _|(simp;done)|(simp;omega)|omega))|(with_reducible refine Below.drew ?_)|(with_reducible refine Go.RowKit.below_drewN ?_ _))),⟨1,0,0,[]⟩,_,_,_,rfl⟩
  ·have hend:ANS=some (⟨1,d.toNat,0,[]⟩,r'):=by rw[← unhide HA];simp[nextS,t1]
   subst hend
   have hml:m=r'.length+1:=by have:=unhide HL;simp at this;omega
   have hm0:((m:Int)==0)=false:=by simp;omega
   have hm1:(1:Int)≤(m:Int):=by omega
   have hm2:0<m:=by omega
   have hm3:(m:Int)≤((c-1:Nat):Int):=by have:=(unhide Hs).nc;omega
   obtain⟨b1,off1,d',e1,hb1lt,hh,hcell1⟩:=((unhide Hs).mono (unhide Hu)).byte hm2
   subst e1
   simp at hh
   subst hh
   obtain⟨A2,hA2⟩:∃ A2,(if c=2 then some (⟨b1,off1,none⟩:Addr) else some ⟨b1,off1+1,none⟩)=A2:=⟨_,rfl⟩
   have hs2:Sl u 1 A2 r'.length (c-1-1) (bvs r'):=by
    have:=(unhide Hs).cut (show 1≤m by omega)
    rw[← hA2]
    simp only[show (c-1=1)=(c=2) from propext ⟨fun _=>by omega,fun _=>by omega⟩,show m-1=r'.length by omega] at this
    simpa [Addr.add,bvs] using this
   have hmr:m-1=r'.length:=by omega
   have c0:(0:Int)≤(d.toNat:Int):=by omega
   have c1:(d.toNat:Int)<256:=by have:=d.toNat_lt;omega
   simp only[Nat.add_zero] at hcell1
   have Hs2:=hide hs2
   clear t1 hml hs2
   go_wp2_with fail
   refine bodyPost_ret (res_val_tt (x:=⟨1,d.toNat,0,[]⟩) rfl rfl (by simp[ValAt,go_sem])) rfl ⟨(by repeat (first|with_reducible exact Below.refl _ _|with_reducible assumption|((with_reducible refine Below.alloc ?_ ?_ _);rotate_left;(first|exact Nat.le_refl _|(simp;done)|(simp;omega)|omega))|((with_reducible refine Below.setCell ?_ ?_ _);rotate_left;(first|exact Nat.le_refl _|(simp;done)|(simp;omega)|omega))|(with_reducible refine Below.drew ?_)|(with_reducible refine Go.RowKit.below_drewN ?_ _))),A2,c-1-1,rfl,unhide Hs2⟩
 by_cases t2:t=2
 ·have hz:(t.toNat:Int)=2:=by rw[t2];rfl
  clear t0 b0 b1 t1
  by_cases h8:m<8
  ·have hend:ANS=none:=by rw[← unhide HA];simp[nextS,t2,unhide HL,h8]
   subst hend
   clear t2
   go_wp2_with (go_at_call 146;refine (eight_short _ _ _ _ h8).mono ?_;rintro e w2 ⟨rfl,rfl⟩)
   exact bodyPost_ret (res_val_tt (x:=⟨2,0,0,[]⟩) rfl rfl (by simp[ValAt,go_sem])) rfl ⟨(by repeat (first|with_reducible exact Below.refl _ _|with_reducible assumption|((with_reducible refine Below.alloc ?_ ?_ _);rotate_left;(first|exact Nat.le_refl _|(simp;done)|(simp;omega)|omega))|((with_reducible refine Below.setCell ?_ ?_ _);rotate_left;(first|exact Nat.le_refl _|(simp;done)|(simp;omega)|omega))|(with_reducible refine Below.drew ?_)|(with_reducible refine Go.RowKit.below_drewN ?_ _))),⟨2,0,0,[]⟩,_,_,_,rfl⟩
  ·have hend:ANS=some (⟨2,(deTo r 8:Int)-9223372036854775808,0,[]⟩,r.drop 8):=by rw[← unhide HA];simp[nextS,t2,unhide HL,h8]
   subst hend
   clear t2
   go_wp2_with (go_at_call 146;refine (eight_any u _ _ _ _ _ (unhide Hs) ((unhide Hu).trans ((Below.mono (B:=w.heap.size) (by repeat (first|with_reducible exact Below.refl _ _|with_reducible assumption|((with_reducible refine Below.alloc ?_ ?_ _);rotate_left;(first|exact Nat.le_refl _|(simp;done)|(simp;omega)|omega))|((with_reducible refine Below.setCell ?_ ?_ _);rotate_left;(first|exact Nat.le_refl _|(simp;done)|(simp;omega)|omega))|(with_reducible refine Below.drew ?_)|(with_reducible refine Go.RowKit.below_drewN ?_ _))) (unhide HU)))) (by omega)).mono ?_;rintro e w1 ⟨A3,c3,rfl,hs3,hb⟩;have hbw:Below w.heap.size w w1:=below_step hb (by repeat (first|with_reducible exact Below.refl _ _|with_reducible assumption|((with_reducible refine Below.alloc ?_ ?_ _);rotate_left;(first|exact Nat.le_refl _|(simp;done)|(simp;omega)|omega))|((with_reducible refine Below.setCell ?_ ?_ _);rotate_left;(first|exact Nat.le_refl _|(simp;done)|(simp;omega)|omega))|(with_reducible refine Below.drew ?_)|(with_reducible refine Go.RowKit.below_drewN ?_ _))) (by first|exact Nat.le_refl _|(simp;done)|(simp;omega)|omega);obtain⟨hb1,hb2,hb3⟩:=bcell hb;(try simp at hb3);clear hb)
   have hrl:(r.drop 8).length=m-8:=by rw[List.length_drop,unhide HL]
   have q1:w1.cell? ⟨w.heap.size,1,none⟩=some (.int .i64 0):=by simp[hb1,go_sem]
   have q2:w1.cell? ⟨w.heap.size,2,none⟩=some (.int .i64 0):=by simp[hb1,go_sem]
   have q3:w1.cell? ⟨w.heap.size,3,none⟩=some (.string ⟨#[]⟩):=by simp[hb1,go_sem]
   have q0:w1.cell? ⟨w.heap.size,0,none⟩=some (.int .i64 2):=by simp[hb1,go_sem]
   refine bodyPost_ret (res_val_tt (x:=⟨2,(deTo r 8:Int)-9223372036854775808,0,[]⟩) rfl rfl ?_) rfl ⟨(by repeat (first|with_reducible exact Below.refl _ _|with_reducible assumption|((with_reducible refine Below.alloc ?_ ?_ _);rotate_left;(first|exact Nat.le_refl _|(simp;done)|(simp;omega)|omega))|((with_reducible refine Below.setCell ?_ ?_ _);rotate_left;(first|exact Nat.le_refl _|(simp;done)|(simp;omega)|omega))|(with_reducible refine Below.drew ?_)|(with_reducible refine Go.RowKit.below_drewN ?_ _))),A3,c3,?_,?_⟩
   ·simp[ValAt,go_sem,q0,q1,q2,q3]
   ·rw[hrl];rfl
   ·rw[hrl];exact hs3
 by_cases t3:t=3
 ·have hz:(t.toNat:Int)=3:=by rw[t3];rfl
  clear t0 b0 b1 t1 t2
  rcases r with _|⟨d,r'⟩
  ·have hend:ANS=none:=by rw[← unhide HA];simp[nextS,t3]
   subst hend
   have hm0:((m:Int)==0)=true:=by have:=unhide HL;simp at this;subst this;rfl
   clear t3
   go_wp2_with fail
   exact bodyPost_ret (res_val_tt (x:=⟨3,0,0,[]⟩) rfl rfl (by simp[ValAt,go_sem])) rfl ⟨(by repeat (first|with_reducible exact Below.refl _ _|with_reducible assumption|((with_reducible refine Below.alloc ?_ ?_ _);rotate_left;(first|exact Nat.le_refl _|(simp;done)|(simp;omega)|omega))|((with_reducible refine Below.setCell ?_ ?_ _);rotate_left;(first|exact Nat.le_refl _|(simp;done)|(simp;omega)|omega))|(with_reducible refine Below.drew ?_)|(with_reducible refine Go.RowKit.below_drewN ?_ _))),⟨3,0,0,[]⟩,_,_,_,rfl⟩
  ·by_cases h8:r'.length<8
   ·have hend:ANS=none:=by rw[← unhide HA];simp[nextS,t3,h8]
    subst hend
    have hml:m=r'.length+1:=by have:=unhide HL;simp at this;omega
    have hm0:((m:Int)==0)=false:=by simp;omega
    have hm1:(1:Int)≤(m:Int):=by omega
    have hm2:0<m:=by omega
    have hm3:(m:Int)≤((c-1:Nat):Int):=by have:=(unhide Hs).nc;omega
    obtain⟨b1,off1,d',e1,hb1lt,hh,hcell1⟩:=((unhide Hs).mono (unhide Hu)).byte hm2
    subst e1
    simp at hh
    subst hh
    obtain⟨A2,hA2⟩:∃ A2,(if c=2 then some (⟨b1,off1,none⟩:Addr) else some ⟨b1,off1+1,none⟩)=A2:=⟨_,rfl⟩
    have hs2:Sl u 1 A2 r'.length (c-1-1) (bvs r'):=by
     have:=(unhide Hs).cut (show 1≤m by omega)
     rw[← hA2]
     simp only[show (c-1=1)=(c=2) from propext ⟨fun _=>by omega,fun _=>by omega⟩,show m-1=r'.length by omega] at this
     simpa [Addr.add,bvs] using this
    have hmr:m-1=r'.length:=by omega
    have c0:(0:Int)≤(d.toNat:Int):=by omega
    have c1:(d.toNat:Int)<256:=by have:=d.toNat_lt;omega
    simp only[Nat.add_zero] at hcell1
    have Hs2:=hide hs2
    clear t3 hml hs2
    go_wp2_with (go_at_call 146;refine (eight_short _ _ _ _ h8).mono ?_;rintro e w2 ⟨rfl,rfl⟩)
    exact bodyPost_ret (res_val_tt (x:=⟨3,0,d.toNat,[]⟩) rfl rfl (by simp[ValAt,go_sem])) rfl ⟨(by repeat (first|with_reducible exact Below.refl _ _|with_reducible assumption|((with_reducible refine Below.alloc ?_ ?_ _);rotate_left;(first|exact Nat.le_refl _|(simp;done)|(simp;omega)|omega))|((with_reducible refine Below.setCell ?_ ?_ _);rotate_left;(first|exact Nat.le_refl _|(simp;done)|(simp;omega)|omega))|(with_reducible refine Below.drew ?_)|(with_reducible refine Go.RowKit.below_drewN ?_ _))),⟨3,0,d.toNat,[]⟩,_,_,_,rfl⟩
   ·have hend:ANS=some (⟨3,(deTo r' 8:Int)-9223372036854775808,d.toNat,[]⟩,r'.drop 8):=by rw[← unhide HA];simp[nextS,t3,h8]
    subst hend
    have hml:m=r'.length+1:=by have:=unhide HL;simp at this;omega
    have hm0:((m:Int)==0)=false:=by simp;omega
    have hm1:(1:Int)≤(m:Int):=by omega
    have hm2:0<m:=by omega
    have hm3:(m:Int)≤((c-1:Nat):Int):=by have:=(unhide Hs).nc;omega
    obtain⟨b1,off1,d',e1,hb1lt,hh,hcell1⟩:=((unhide Hs).mono (unhide Hu)).byte hm2
    subst e1
    simp at hh
    subst hh
    obtain⟨A2,hA2⟩:∃ A2,(if c=2 then some (⟨b1,off1,none⟩:Addr) else some ⟨b1,off1+1,none⟩)=A2:=⟨_,rfl⟩
    have hs2:Sl u 1 A2 r'.length (c-1-1) (bvs r'):=by
     have:=(unhide Hs).cut (show 1≤m by omega)
     rw[← hA2]
     simp only[show (c-1=1)=(c=2) from propext ⟨fun _=>by omega,fun _=>by omega⟩,show m-1=r'.length by omega] at this
     simpa [Addr.add,bvs] using this
    have hmr:m-1=r'.length:=by omega
    have c0:(0:Int)≤(d.toNat:Int):=by omega
    have c1:(d.toNat:Int)<256:=by have:=d.toNat_lt;omega
    simp only[Nat.add_zero] at hcell1
    have Hs2:=hide hs2
    clear t3 hml hs2
    go_wp2_with (go_at_call 146;refine (eight_any u _ _ _ _ _ (unhide Hs2) ((unhide Hu).trans ((Below.mono (B:=w.heap.size) (by repeat (first|with_reducible exact Below.refl _ _|with_reducible assumption|((with_reducible refine Below.alloc ?_ ?_ _);rotate_left;(first|exact Nat.le_refl _|(simp;done)|(simp;omega)|omega))|((with_reducible refine Below.setCell ?_ ?_ _);rotate_left;(first|exact Nat.le_refl _|(simp;done)|(simp;omega)|omega))|(with_reducible refine Below.drew ?_)|(with_reducible refine Go.RowKit.below_drewN ?_ _))) (unhide HU)))) (by omega)).mono ?_;rintro e w1 ⟨A3,c3,rfl,hs3,hb⟩;have hbw:Below w.heap.size w w1:=below_step hb (by repeat (first|with_reducible exact Below.refl _ _|with_reducible assumption|((with_reducible refine Below.alloc ?_ ?_ _);rotate_left;(first|exact Nat.le_refl _|(simp;done)|(simp;omega)|omega))|((with_reducible refine Below.setCell ?_ ?_ _);rotate_left;(first|exact Nat.le_refl _|(simp;done)|(simp;omega)|omega))|(with_reducible refine Below.drew ?_)|(with_reducible refine Go.RowKit.below_drewN ?_ _))) (by first|exact Nat.le_refl _|(simp;done)|(simp;omega)|omega);obtain⟨hb1,hb2,hb3⟩:=bcell hb;(try simp at hb3);clear hb)
    have hrl:(r'.drop 8).length=r'.length-8:=by rw[List.length_drop]
    have q1:w1.cell? ⟨w.heap.size,1,none⟩=some (.int .i64 0):=by simp[hb1,go_sem]
    have q2:w1.cell? ⟨w.heap.size,2,none⟩=some (.int .i64 d.toNat):=by simp[hb1,go_sem]
    have q3:w1.cell? ⟨w.heap.size,3,none⟩=some (.string ⟨#[]⟩):=by simp[hb1,go_sem]
    have q0:w1.cell? ⟨w.heap.size,0,none⟩=some (.int .i64 3):=by simp[hb1,go_sem]
    refine bodyPost_ret (res_val_tt (x:=⟨3,(deTo r' 8:Int)-9223372036854775808,d.toNat,[]⟩) rfl rfl ?_) rfl ⟨(by repeat (first|with_reducible exact Below.refl _ _|with_reducible assumption|((with_reducible refine Below.alloc ?_ ?_ _);rotate_left;(first|exact Nat.le_refl _|(simp;done)|(simp;omega)|omega))|((with_reducible refine Below.setCell ?_ ?_ _);rotate_left;(first|exact Nat.le_refl _|(simp;done)|(simp;omega)|omega))|(with_reducible refine Below.drew ?_)|(with_reducible refine Go.RowKit.below_drewN ?_ _))),A3,c3,?_,?_⟩
    ·simp[ValAt,go_sem,q0,q1,q2,q3]
    ·rw[hrl];rfl
    ·rw[hrl];exact hs3
 by_cases t4:t=4∨t=5
 ·obtain⟨K,hK⟩:∃ K:Int,(t.toNat:Int)=K:=⟨_,rfl⟩
  have hK45:K=4∨K=5:=by rcases t4 with rfl|rfl<;>simp at hK<;>omega
  have hnx:nextS (t::r)=(untext r).map (fun p=>(⟨K,0,0,p.1⟩,p.2)):=by simp[nextS,t0,t1,t2,t3,t4,hK]
  rw[hnx] at HA
  clear t0 b0 b1 t1 t2 t3 t4 hnx
  rcases hut:untext r with _|⟨tx,rest⟩
  ·have hend:ANS=none:=by rw[← unhide HA,hut];rfl
   subst hend
   have hun:=fun W (h:Below u.heap.size u W)=>untext_any u W _ _ _ _ (unhide Hs) h hbig
   rw[hut] at hun
   have Hun:=hide hun
   clear hun hut
   rcases hK45 with rfl|rfl
   ·go_wp2_with (go_at_call 147;refine (unhide Hun _ ((unhide Hu).trans ((Below.mono (B:=w.heap.size) (by repeat (first|with_reducible exact Below.refl _ _|with_reducible assumption|((with_reducible refine Below.alloc ?_ ?_ _);rotate_left;(first|exact Nat.le_refl _|(simp;done)|(simp;omega)|omega))|((with_reducible refine Below.setCell ?_ ?_ _);rotate_left;(first|exact Nat.le_refl _|(simp;done)|(simp;omega)|omega))|(with_reducible refine Below.drew ?_)|(with_reducible refine Go.RowKit.below_drewN ?_ _))) (unhide HU))))).mono ?_;rintro e w1 ⟨hb,rfl⟩;have hbw:Below w.heap.size w w1:=below_step hb (by repeat (first|with_reducible exact Below.refl _ _|with_reducible assumption|((with_reducible refine Below.alloc ?_ ?_ _);rotate_left;(first|exact Nat.le_refl _|(simp;done)|(simp;omega)|omega))|((with_reducible refine Below.setCell ?_ ?_ _);rotate_left;(first|exact Nat.le_refl _|(simp;done)|(simp;omega)|omega))|(with_reducible refine Below.drew ?_)|(with_reducible refine Go.RowKit.below_drewN ?_ _))) (by first|exact Nat.le_refl _|(simp;done)|(simp;omega)|omega);obtain⟨hb1,hb2,hb3⟩:=bcell hb;(try simp at hb3);clear hb)
    have q1:w1.cell? ⟨w.heap.size,1,none⟩=some (.int .i64 0):=by simp[hb1,go_sem]
    have q2:w1.cell? ⟨w.heap.size,2,none⟩=some (.int .i64 0):=by simp[hb1,go_sem]
    have q3:w1.cell? ⟨w.heap.size,3,none⟩=some (.string ⟨#[]⟩):=by simp[hb1,go_sem]
    have q0:w1.cell? ⟨w.heap.size,0,none⟩=some (.int .i64 4):=by simp[hb1,go_sem]
    refine bodyPost_ret (res_val_tt (x:=⟨4,0,0,[]⟩) rfl rfl ?_) rfl ⟨(by repeat (first|with_reducible exact Below.refl _ _|with_reducible assumption|((with_reducible refine Below.alloc ?_ ?_ _);rotate_left;(first|exact Nat.le_refl _|(simp;done)|(simp;omega)|omega))|((with_reducible refine Below.setCell ?_ ?_ _);rotate_left;(first|exact Nat.le_refl _|(simp;done)|(simp;omega)|omega))|(with_reducible refine Below.drew ?_)|(with_reducible refine Go.RowKit.below_drewN ?_ _))),⟨4,0,0,[]⟩,_,_,_,rfl⟩
    simp[ValAt,go_sem,q0,q1,q2,q3]
   ·go_wp2_with (go_at_call 147;refine (unhide Hun _ ((unhide Hu).trans ((Below.mono (B:=w.heap.size) (by repeat (first|with_reducible exact Below.refl _ _|with_reducible assumption|((with_reducible refine Below.alloc ?_ ?_ _);rotate_left;(first|exact Nat.le_refl _|(simp;done)|(simp;omega)|omega))|((with_reducible refine Below.setCell ?_ ?_ _);rotate_left;(first|exact Nat.le_refl _|(simp;done)|(simp;omega)|omega))|(with_reducible refine Below.drew ?_)|(with_reducible refine Go.RowKit.below_drewN ?_ _))) (unhide HU))))).mono ?_;rintro e w1 ⟨hb,rfl⟩;have hbw:Below w.heap.size w w1:=below_step hb (by repeat (first|with_reducible exact Below.refl _ _|with_reducible assumption|((with_reducible refine Below.alloc ?_ ?_ _);rotate_left;(first|exact Nat.le_refl _|(simp;done)|(simp;omega)|omega))|((with_reducible refine Below.setCell ?_ ?_ _);rotate_left;(first|exact Nat.le_refl _|(simp;done)|(simp;omega)|omega))|(with_reducible refine Below.drew ?_)|(with_reducible refine Go.RowKit.below_drewN ?_ _))) (by first|exact Nat.le_refl _|(simp;done)|(simp;omega)|omega);obtain⟨hb1,hb2,hb3⟩:=bcell hb;(try simp at hb3);clear hb)
    have q1:w1.cell? ⟨w.heap.size,1,none⟩=some (.int .i64 0):=by simp[hb1,go_sem]
    have q2:w1.cell? ⟨w.heap.size,2,none⟩=some (.int .i64 0):=by simp[hb1,go_sem]
    have q3:w1.cell? ⟨w.heap.size,3,none⟩=some (.string ⟨#[]⟩):=by simp[hb1,go_sem]
    have q0:w1.cell? ⟨w.heap.size,0,none⟩=some (.int .i64 5):=by simp[hb1,go_sem]
    refine bodyPost_ret (res_val_tt (x:=⟨5,0,0,[]⟩) rfl rfl ?_) rfl ⟨(by repeat (first|with_reducible exact Below.refl _ _|with_reducible assumption|((with_reducible refine Below.alloc ?_ ?_ _);rotate_left;(first|exact Nat.le_refl _|(simp;done)|(simp;omega)|omega))|((with_reducible refine Below.setCell ?_ ?_ _);rotate_left;(first|exact Nat.le_refl _|(simp;done)|(simp;omega)|omega))|(with_reducible refine Below.drew ?_)|(with_reducible refine Go.RowKit.below_drewN ?_ _))),⟨5,0,0,[]⟩,_,_,_,rfl⟩
    simp[ValAt,go_sem,q0,q1,q2,q3]
  ·have hend:ANS=some (⟨K,0,0,tx⟩,rest):=by rw[← unhide HA,hut];rfl
   subst hend
   have hun:=fun W (h:Below u.heap.size u W)=>untext_any u W _ _ _ _ (unhide Hs) h hbig
   rw[hut] at hun
   have Hun:=hide hun
   clear hun hut
   rcases hK45 with rfl|rfl
   ·go_wp2_with (go_at_call 147;refine (unhide Hun _ ((unhide Hu).trans ((Below.mono (B:=w.heap.size) (by repeat (first|with_reducible exact Below.refl _ _|with_reducible assumption|((with_reducible refine Below.alloc ?_ ?_ _);rotate_left;(first|exact Nat.le_refl _|(simp;done)|(simp;omega)|omega))|((with_reducible refine Below.setCell ?_ ?_ _);rotate_left;(first|exact Nat.le_refl _|(simp;done)|(simp;omega)|omega))|(with_reducible refine Below.drew ?_)|(with_reducible refine Go.RowKit.below_drewN ?_ _))) (unhide HU))))).mono ?_;rintro e w1 ⟨hb,A3,c3,rfl,hs3⟩;have hbw:Below w.heap.size w w1:=below_step hb (by repeat (first|with_reducible exact Below.refl _ _|with_reducible assumption|((with_reducible refine Below.alloc ?_ ?_ _);rotate_left;(first|exact Nat.le_refl _|(simp;done)|(simp;omega)|omega))|((with_reducible refine Below.setCell ?_ ?_ _);rotate_left;(first|exact Nat.le_refl _|(simp;done)|(simp;omega)|omega))|(with_reducible refine Below.drew ?_)|(with_reducible refine Go.RowKit.below_drewN ?_ _))) (by first|exact Nat.le_refl _|(simp;done)|(simp;omega)|omega);obtain⟨hb1,hb2,hb3⟩:=bcell hb;(try simp at hb3);clear hb)
    have q1:w1.cell? ⟨w.heap.size,1,none⟩=some (.int .i64 0):=by simp[hb1,go_sem]
    have q2:w1.cell? ⟨w.heap.size,2,none⟩=some (.int .i64 0):=by simp[hb1,go_sem]
    have q3:w1.cell? ⟨w.heap.size,3,none⟩=some (.string ⟨#[]⟩):=by simp[hb1,go_sem]
    have q0:w1.cell? ⟨w.heap.size,0,none⟩=some (.int .i64 4):=by simp[hb1,go_sem]
    refine bodyPost_ret (res_val_tt (x:=⟨4,0,0,tx⟩) rfl rfl ?_) rfl ⟨(by repeat (first|with_reducible exact Below.refl _ _|with_reducible assumption|((with_reducible refine Below.alloc ?_ ?_ _);rotate_left;(first|exact Nat.le_refl _|(simp;done)|(simp;omega)|omega))|((with_reducible refine Below.setCell ?_ ?_ _);rotate_left;(first|exact Nat.le_refl _|(simp;done)|(simp;omega)|omega))|(with_reducible refine Below.drew ?_)|(with_reducible refine Go.RowKit.below_drewN ?_ _))),A3,c3,rfl,hs3⟩
    simp[ValAt,go_sem,q0,q1,q2,q3]
   ·go_wp2_with (go_at_call 147;refine (unhide Hun _ ((unhide Hu).trans ((Below.mono (B:=w.heap.size) (by repeat (first|with_reducible exact Below.refl _ _|with_reducible assumption|((with_reducible refine Below.alloc ?_ ?_ _);rotate_left;(first|exact Nat.le_refl _|(simp;done)|(simp;omega)|omega))|((with_reducible refine Below.setCell ?_ ?_ _);rotate_left;(first|exact Nat.le_refl _|(simp;done)|(simp;omega)|omega))|(with_reducible refine Below.drew ?_)|(with_reducible refine Go.RowKit.below_drewN ?_ _))) (unhide HU))))).mono ?_;rintro e w1 ⟨hb,A3,c3,rfl,hs3⟩;have hbw:Below w.heap.size w w1:=below_step hb (by repeat (first|with_reducible exact Below.refl _ _|with_reducible assumption|((with_reducible refine Below.alloc ?_ ?_ _);rotate_left;(first|exact Nat.le_refl _|(simp;done)|(simp;omega)|omega))|((with_reducible refine Below.setCell ?_ ?_ _);rotate_left;(first|exact Nat.le_refl _|(simp;done)|(simp;omega)|omega))|(with_reducible refine Below.drew ?_)|(with_reducible refine Go.RowKit.below_drewN ?_ _))) (by first|exact Nat.le_refl _|(simp;done)|(simp;omega)|omega);obtain⟨hb1,hb2,hb3⟩:=bcell hb;(try simp at hb3);clear hb)
    have q1:w1.cell? ⟨w.heap.size,1,none⟩=some (.int .i64 0):=by simp[hb1,go_sem]
    have q2:w1.cell? ⟨w.heap.size,2,none⟩=some (.int .i64 0):=by simp[hb1,go_sem]
    have q3:w1.cell? ⟨w.heap.size,3,none⟩=some (.string ⟨#[]⟩):=by simp[hb1,go_sem]
    have q0:w1.cell? ⟨w.heap.size,0,none⟩=some (.int .i64 5):=by simp[hb1,go_sem]
    refine bodyPost_ret (res_val_tt (x:=⟨5,0,0,tx⟩) rfl rfl ?_) rfl ⟨(by repeat (first|with_reducible exact Below.refl _ _|with_reducible assumption|((with_reducible refine Below.alloc ?_ ?_ _);rotate_left;(first|exact Nat.le_refl _|(simp;done)|(simp;omega)|omega))|((with_reducible refine Below.setCell ?_ ?_ _);rotate_left;(first|exact Nat.le_refl _|(simp;done)|(simp;omega)|omega))|(with_reducible refine Below.drew ?_)|(with_reducible refine Go.RowKit.below_drewN ?_ _))),A3,c3,rfl,hs3⟩
    simp[ValAt,go_sem,q0,q1,q2,q3]
 have hend:ANS=none:=by rw[← unhide HA];simp[nextS,t0,t1,t2,t3,t4]
 subst hend
 have e0:((t.toNat:Int)==0)=false:=beq_u8 (n:=0) (by omega) t0
 have e1:((t.toNat:Int)==1)=false:=beq_u8 (n:=1) (by omega) t1
 have e2:((t.toNat:Int)==2)=false:=beq_u8 (n:=2) (by omega) t2
 have e3:((t.toNat:Int)==3)=false:=beq_u8 (n:=3) (by omega) t3
 have e4:((t.toNat:Int)==4)=false:=beq_u8 (n:=4) (by omega) (fun h=>t4 (.inl h))
 have e5:((t.toNat:Int)==5)=false:=beq_u8 (n:=5) (by omega) (fun h=>t4 (.inr h))
 clear t0 t1 t2 t3 t4 b0 b1
 go_wp2_with fail
 exact bodyPost_ret (res_val_tt (x:=⟨t.toNat,0,0,[]⟩) rfl rfl (by simp[ValAt,go_sem])) rfl ⟨(by repeat (first|with_reducible exact Below.refl _ _|with_reducible assumption|((with_reducible refine Below.alloc ?_ ?_ _);rotate_left;(first|exact Nat.le_refl _|(simp;done)|(simp;omega)|omega))|((with_reducible refine Below.setCell ?_ ?_ _);rotate_left;(first|exact Nat.le_refl _|(simp;done)|(simp;omega)|omega))|(with_reducible refine Below.drew ?_)|(with_reducible refine Go.RowKit.below_drewN ?_ _))),⟨t.toNat,0,0,[]⟩,_,_,_,rfl⟩
def nextV (l:List UInt8):Option (Val×List UInt8):=(nextS l).bind fun p=>if right p.1 then some p else none
def NextedV (w:World)(r:Option (Val×List UInt8)):Ending→World→Prop:=fun e w'=>Below w.heap.size w w'∧match r with
 |none=>e=.returned (.tuple #[.agg #[.int .i64 0,.int .i64 0,.int .i64 0,.string ⟨#[]⟩],.slice none 0 0,.bool false])
 |some (x,rest)=>∃ A c,e=.returned (.tuple #[.agg #[.int .i64 x.kind,.int .i64 x.n,.int .i64 x.scale,.string ⟨x.s.toArray⟩],.slice A rest.length c,.bool true])∧OwnB w' w.heap.size (.slice A rest.length c) rest
set_option maxRecDepth 100000 in
set_option maxHeartbeats 1000000 in
theorem keysNext_any (w:World) (A:Option Addr) (n c:Nat) (l:List UInt8) (hs:Sl w 1 A n c (bvs l)) (hn:n≤100000000000) (hT:Tabs w) :
  Calls Tryz.prog 116 #[.slice A n c] w (NextedV w (nextV l)):=by
 have hlen:=hs.blen
 by_cases h0:n=0
 ·have hz:((n:Int)==0)=true:=by simp[h0]
  have:l=[]:=List.eq_nil_of_length_eq_zero (by omega)
  subst this
  rw[show nextV []=none from rfl]
  clear hs hlen h0
  go_enter Tryz.func116,Tryz.ntmps116
  go_wp2_with fail
  exact bodyPost_ret (res_val_tt (x:=vnull) rfl rfl (by simp[ValAt,go_sem,vnull])) rfl ⟨(by repeat (first|with_reducible exact Below.refl _ _|with_reducible assumption|((with_reducible refine Below.alloc ?_ ?_ _);rotate_left;(first|exact Nat.le_refl _|(simp;done)|(simp;omega)|omega))|((with_reducible refine Below.setCell ?_ ?_ _);rotate_left;(first|exact Nat.le_refl _|(simp;done)|(simp;omega)|omega))|(with_reducible refine Below.drew ?_)|(with_reducible refine Go.RowKit.below_drewN ?_ _))),rfl⟩
 ·have hz : ((n:Int)==0)=false:=by simp[h0]
  have hnx:=fun W (h:Below w.heap.size w W)=>next_any w W _ _ _ _ hs h hn (by omega)
  obtain⟨ANS,hA⟩:∃ r,nextV l=r:=⟨_,rfl⟩
  rw[hA]
  unfold nextV at hA
  rcases hS:nextS l with _|⟨x,rest⟩
  ·rw[hS] at hA hnx
   have hend:ANS=none:=hA.symm
   subst hend
   have Hnx:=hide hnx
   clear hnx hA hS hs h0 hlen
   go_enter Tryz.func116,Tryz.ntmps116
   go_wp2_with (go_at_call 141;refine (unhide Hnx _ (by repeat (first|with_reducible exact Below.refl _ _|with_reducible assumption|((with_reducible refine Below.alloc ?_ ?_ _);rotate_left;(first|exact Nat.le_refl _|(simp;done)|(simp;omega)|omega))|((with_reducible refine Below.setCell ?_ ?_ _);rotate_left;(first|exact Nat.le_refl _|(simp;done)|(simp;omega)|omega))|(with_reducible refine Below.drew ?_)|(with_reducible refine Go.RowKit.below_drewN ?_ _)))).mono ?_;rintro e w1 ⟨hb,x,A3,n3,c3,rfl⟩;have hbw:Below w.heap.size w w1:=below_step hb (by repeat (first|with_reducible exact Below.refl _ _|with_reducible assumption|((with_reducible refine Below.alloc ?_ ?_ _);rotate_left;(first|exact Nat.le_refl _|(simp;done)|(simp;omega)|omega))|((with_reducible refine Below.setCell ?_ ?_ _);rotate_left;(first|exact Nat.le_refl _|(simp;done)|(simp;omega)|omega))|(with_reducible refine Below.drew ?_)|(with_reducible refine Go.RowKit.below_drewN ?_ _))) (by first|exact Nat.le_refl _|(simp;done)|(simp;omega)|omega);have L1:Loc w1 w.heap.size vnull:=(Loc.new w vnull).below hb (by simp);obtain⟨p0,p1,p2,p3,pf,pl⟩:=L1.facts;clear hb)
   refine bodyPost_ret (res_val_tt (x:=vnull) rfl rfl ?_) rfl ⟨(by repeat (first|with_reducible exact Below.refl _ _|with_reducible assumption|((with_reducible refine Below.alloc ?_ ?_ _);rotate_left;(first|exact Nat.le_refl _|(simp;done)|(simp;omega)|omega))|((with_reducible refine Below.setCell ?_ ?_ _);rotate_left;(first|exact Nat.le_refl _|(simp;done)|(simp;omega)|omega))|(with_reducible refine Below.drew ?_)|(with_reducible refine Go.RowKit.below_drewN ?_ _))),rfl⟩
   simp only[vnull] at p0 p1 p2 p3
   simp[ValAt,go_sem,p0,p1,p2,p3,pl,vnull]
  ·rw[hS] at hA hnx
   have hr:=fun W (h:Tabs W)=>right_any x W h
   have Hnx:=hide hnx
   rcases hx:right x with _|_
   ·have hend:ANS=none:=by rw[← hA];simp[hx]
    subst hend
    rw[hx] at hr
    have Hr:=hide hr
    clear hr hnx hA hS hs h0 hlen hx
    go_enter Tryz.func116,Tryz.ntmps116
    go_wp2_with (first
     |(go_at_call 141;refine (unhide Hnx _ (by repeat (first|with_reducible exact Below.refl _ _|with_reducible assumption|((with_reducible refine Below.alloc ?_ ?_ _);rotate_left;(first|exact Nat.le_refl _|(simp;done)|(simp;omega)|omega))|((with_reducible refine Below.setCell ?_ ?_ _);rotate_left;(first|exact Nat.le_refl _|(simp;done)|(simp;omega)|omega))|(with_reducible refine Below.drew ?_)|(with_reducible refine Go.RowKit.below_drewN ?_ _)))).mono ?_;rintro e w1 ⟨hb,A3,c3,rfl,hs3⟩;have hbw:Below w.heap.size w w1:=below_step hb (by repeat (first|with_reducible exact Below.refl _ _|with_reducible assumption|((with_reducible refine Below.alloc ?_ ?_ _);rotate_left;(first|exact Nat.le_refl _|(simp;done)|(simp;omega)|omega))|((with_reducible refine Below.setCell ?_ ?_ _);rotate_left;(first|exact Nat.le_refl _|(simp;done)|(simp;omega)|omega))|(with_reducible refine Below.drew ?_)|(with_reducible refine Go.RowKit.below_drewN ?_ _))) (by first|exact Nat.le_refl _|(simp;done)|(simp;omega)|omega);have L1:Loc w1 w.heap.size vnull:=(Loc.new w vnull).below hb (by simp);obtain⟨p0,p1,p2,p3,pf,pl⟩:=L1.facts;clear hb)
     |(go_at_call 109;refine (unhide Hr _ (hT.below (by repeat (first|with_reducible exact Below.refl _ _|with_reducible assumption|((with_reducible refine Below.alloc ?_ ?_ _);rotate_left;(first|exact Nat.le_refl _|(simp;done)|(simp;omega)|omega))|((with_reducible refine Below.setCell ?_ ?_ _);rotate_left;(first|exact Nat.le_refl _|(simp;done)|(simp;omega)|omega))|(with_reducible refine Below.drew ?_)|(with_reducible refine Go.RowKit.below_drewN ?_ _))))).mono ?_;rintro e w2 ⟨rfl,hc⟩;have hbw2:Below w.heap.size w w2:=below_step hc (by repeat (first|with_reducible exact Below.refl _ _|with_reducible assumption|((with_reducible refine Below.alloc ?_ ?_ _);rotate_left;(first|exact Nat.le_refl _|(simp;done)|(simp;omega)|omega))|((with_reducible refine Below.setCell ?_ ?_ _);rotate_left;(first|exact Nat.le_refl _|(simp;done)|(simp;omega)|omega))|(with_reducible refine Below.drew ?_)|(with_reducible refine Go.RowKit.below_drewN ?_ _))) (by first|exact Nat.le_refl _|(simp;done)|(simp;omega)|omega);have L2:Loc w2 w.heap.size vnull:=(L1.alloc _).below hc (by simp;omega);obtain⟨q0,q1,q2,q3,qf,ql⟩:=L2.facts;clear hc))
    refine bodyPost_ret (res_val_tt (x:=vnull) rfl rfl ?_) rfl ⟨(by repeat (first|with_reducible exact Below.refl _ _|with_reducible assumption|((with_reducible refine Below.alloc ?_ ?_ _);rotate_left;(first|exact Nat.le_refl _|(simp;done)|(simp;omega)|omega))|((with_reducible refine Below.setCell ?_ ?_ _);rotate_left;(first|exact Nat.le_refl _|(simp;done)|(simp;omega)|omega))|(with_reducible refine Below.drew ?_)|(with_reducible refine Go.RowKit.below_drewN ?_ _))),rfl⟩
    simp only[vnull] at q0 q1 q2 q3
    simp[ValAt,go_sem,q0,q1,q2,q3,ql,vnull]
   ·have hend:ANS=some (x,rest):=by rw[← hA];simp[hx]
    subst hend
    rw[hx] at hr
    have Hr:=hide hr
    have hS':=hS
    clear hr hnx hA hS h0 hx
    have Hs:=hide hs
    have hrl:rest.length≤100000000000:=by have:=nextS_len hS';omega
    clear hs hlen hS'
    go_enter Tryz.func116,Tryz.ntmps116
    go_wp2_with (first
     |(go_at_call 141;refine (unhide Hnx _ (by repeat (first|with_reducible exact Below.refl _ _|with_reducible assumption|((with_reducible refine Below.alloc ?_ ?_ _);rotate_left;(first|exact Nat.le_refl _|(simp;done)|(simp;omega)|omega))|((with_reducible refine Below.setCell ?_ ?_ _);rotate_left;(first|exact Nat.le_refl _|(simp;done)|(simp;omega)|omega))|(with_reducible refine Below.drew ?_)|(with_reducible refine Go.RowKit.below_drewN ?_ _)))).mono ?_;rintro e w1 ⟨hb,A3,c3,rfl,hs3⟩;have hbw:Below w.heap.size w w1:=below_step hb (by repeat (first|with_reducible exact Below.refl _ _|with_reducible assumption|((with_reducible refine Below.alloc ?_ ?_ _);rotate_left;(first|exact Nat.le_refl _|(simp;done)|(simp;omega)|omega))|((with_reducible refine Below.setCell ?_ ?_ _);rotate_left;(first|exact Nat.le_refl _|(simp;done)|(simp;omega)|omega))|(with_reducible refine Below.drew ?_)|(with_reducible refine Go.RowKit.below_drewN ?_ _))) (by first|exact Nat.le_refl _|(simp;done)|(simp;omega)|omega);have L1:Loc w1 w.heap.size vnull:=(Loc.new w vnull).below hb (by simp);obtain⟨p0,p1,p2,p3,pf,pl⟩:=L1.facts;clear hb)
     |(go_at_call 109;refine (unhide Hr _ (hT.below (by repeat (first|with_reducible exact Below.refl _ _|with_reducible assumption|((with_reducible refine Below.alloc ?_ ?_ _);rotate_left;(first|exact Nat.le_refl _|(simp;done)|(simp;omega)|omega))|((with_reducible refine Below.setCell ?_ ?_ _);rotate_left;(first|exact Nat.le_refl _|(simp;done)|(simp;omega)|omega))|(with_reducible refine Below.drew ?_)|(with_reducible refine Go.RowKit.below_drewN ?_ _))))).mono ?_;rintro e w2 ⟨rfl,hc⟩;have hbw2:Below w.heap.size w w2:=below_step hc (by repeat (first|with_reducible exact Below.refl _ _|with_reducible assumption|((with_reducible refine Below.alloc ?_ ?_ _);rotate_left;(first|exact Nat.le_refl _|(simp;done)|(simp;omega)|omega))|((with_reducible refine Below.setCell ?_ ?_ _);rotate_left;(first|exact Nat.le_refl _|(simp;done)|(simp;omega)|omega))|(with_reducible refine Below.drew ?_)|(with_reducible refine Go.RowKit.below_drewN ?_ _))) (by first|exact Nat.le_refl _|(simp;done)|(simp;omega)|omega);have L2:Loc w2 w.heap.size vnull:=(L1.alloc _).below hc (by simp;omega);have M2:Loc w2 w1.heap.size x:=(Loc.new w1 x).below hc (by simp);obtain⟨q0,q1,q2,q3,qf,ql⟩:=L2.facts;obtain⟨m0,m1,m2,m3,mf,ml⟩:=M2.facts;clear hc))
    have hne1:w1.heap.size≠w.heap.size:=by omega
    go_region_held3 (fun w'=>(w'.cell? ⟨w1.heap.size,0,none⟩=some (.int .i64 x.kind)∧w'.cell? ⟨w1.heap.size,1,none⟩=some (.int .i64 x.n)∧w'.cell? ⟨w1.heap.size,2,none⟩=some (.int .i64 x.scale)∧w'.cell? ⟨w1.heap.size,3,none⟩=some (.string ⟨x.s.toArray⟩)))
     (first|with_reducible exact⟨n0,n1,n2,n3⟩|exact⟨m0,m1,m2,m3⟩|exact⟨(cell_sets hne1).trans n0,(cell_sets hne1).trans n1,(cell_sets hne1).trans n2,(cell_sets hne1).trans n3⟩)
     ((first
      |(go_at_call 80;refine (clone_any _ _ _ _ rest (hs3.mono (by repeat (first|with_reducible exact Below.refl _ _|with_reducible assumption|((with_reducible refine Below.alloc ?_ ?_ _);rotate_left;(first|exact Nat.le_refl _|(simp;done)|(simp;omega)|omega))|((with_reducible refine Below.setCell ?_ ?_ _);rotate_left;(first|exact Nat.le_refl _|(simp;done)|(simp;omega)|omega))|(with_reducible refine Below.drew ?_)|(with_reducible refine Go.RowKit.below_drewN ?_ _)))) hrl).mono ?_;rintro e w3 ⟨A4,c4,rfl,ho4,hs4,hd⟩;have hbw3:Below w.heap.size w w3:=below_step hd (by repeat (first|with_reducible exact Below.refl _ _|with_reducible assumption|((with_reducible refine Below.alloc ?_ ?_ _);rotate_left;(first|exact Nat.le_refl _|(simp;done)|(simp;omega)|omega))|((with_reducible refine Below.setCell ?_ ?_ _);rotate_left;(first|exact Nat.le_refl _|(simp;done)|(simp;omega)|omega))|(with_reducible refine Below.drew ?_)|(with_reducible refine Go.RowKit.below_drewN ?_ _))) (by first|exact Nat.le_refl _|(simp;done)|(simp;omega)|omega);have L3:Loc w3 w.heap.size vnull:=(show Loc w2.drew w.heap.size vnull from L2).below hd (by simp;omega);have M3:Loc w3 w1.heap.size x:=(show Loc w2.drew w1.heap.size x from M2).below hd (by simp;omega);obtain⟨q0,q1,q2,q3,qf,ql⟩:=L3.facts;obtain⟨n0,n1,n2,n3,nf,nl⟩:=M3.facts;(try simp at ho4);clear hd)))
    go_wp2_with fail
    refine bodyPost_ret (res_val_tt (x:=x) rfl rfl (L3.store x).valAt) rfl ⟨(by repeat (first|with_reducible exact Below.refl _ _|with_reducible assumption|((with_reducible refine Below.alloc ?_ ?_ _);rotate_left;(first|exact Nat.le_refl _|(simp;done)|(simp;omega)|omega))|((with_reducible refine Below.setCell ?_ ?_ _);rotate_left;(first|exact Nat.le_refl _|(simp;done)|(simp;omega)|omega))|(with_reducible refine Below.drew ?_)|(with_reducible refine Go.RowKit.below_drewN ?_ _))),A4,c4,rfl,?_⟩
    exact own_mono ((((ho4.setBelow (by simp;omega) _).setBelow (by simp;omega) _).setBelow (by simp;omega) _).setBelow (by simp;omega) _) (by omega)
theorem nextV_len {l:List UInt8}{x:Val}{r:List UInt8}(h:nextV l=some (x,r)):r.length<l.length:=by
 obtain⟨p,hp,h⟩:=Option.bind_eq_some_iff.1 h
 split at h
 ·injection h with h
  subst h
  exact nextS_len hp
 ·cases h
def getTo:Nat→List UInt8→Option (List Val)
 |0,_=>some []
 |k+1,l=>if l=[] then some [] else match nextV l with
  |none=>none
  |some (x,r)=>(getTo k r).map (x :: ·)
def getV (l:List UInt8):Option (List Val):=getTo l.length l
theorem getTo_fuel:∀ (k:Nat) (l:List UInt8),l.length≤k→getTo k l=getV l:=by
 intro k
 induction k using Nat.strongRecOn with
 |_ k ih =>
  intro l hl
  unfold getV
  match k,l with
  |0,[]=>rfl
  |k+1,[]=>simp[getTo]
  |k+1,c::l =>
   simp only[List.length_cons,getTo]
   simp only[reduceCtorEq,if_false]
   rcases h:nextV (c::l) with _|⟨x,r⟩
   ·rfl
   ·have hlt:=nextV_len h
    simp only[List.length_cons] at hlt hl
    dsimp only
    rw[ih k (by omega) r (by omega)]
    rcases Nat.lt_or_ge l.length (k+1) with h2|h2
    ·rw[ih l.length (by omega) r (by omega)]
    ·omega
theorem getV_nil:getV []=some []:=rfl
theorem getV_step {l:List UInt8}(h:l≠[]):getV l=match nextV l with|none=>none|some (x,r)=>(getV r).map (x :: ·):=by
 match l,h with
 |c::l,_ =>
  rw[← getTo_fuel (l.length+1) (c::l) (by simp)]
  simp only[getTo,reduceCtorEq,if_false]
  rcases h:nextV (c::l) with _|⟨x,r⟩
  ·rfl
  ·have hlt:=nextV_len h
   simp only[List.length_cons] at hlt
   dsimp only
   rw[getTo_fuel l.length r (by omega)]
end Go.Proofs.YthjmjoioagocdaaGreatDoor
end
section
namespace Go.Proofs.YthjmjoioagocdaaGreatDoor
def Val.in64 (x:Val):Prop:=-9223372036854775808≤x.n∧x.n≤9223372036854775807
theorem null64:vnull.in64:=by unfold Val.in64 vnull;simp
theorem plain64 {x:Val}(h:x.in64):(plain x).in64:=by
 unfold plain;split
 ·exact h
 ·exact null64
theorem beTo_get (u:Nat)(r:List UInt8){k:Nat}(hk:k<8):(beTo u 8++r)[k]? = some (UInt8.ofNat (u/2^(56-8 * k)%256)):=by
 rw[List.getElem?_append_left (by rw[beTo_length];exact hk)]
 simp[beTo,hk]
theorem deTo_beTo_at (u:Nat)(h:u<2^64)(r:List UInt8):∀ k,k≤8→deTo (beTo u 8++r) k=u/2^(64-8 * k):=by
 intro k
 induction k with
 |zero=>intro _;rw[Nat.mul_zero,Nat.sub_zero,Nat.div_eq_of_lt h];rfl
 |succ k ih =>
  intro hk
  rw[deTo_succ (beTo_get u r (by omega)),ih (by omega),UInt8.toNat_ofNat',show 64-8 * k=(56-8 * k)+8 from by omega,Nat.pow_add,← Nat.div_div_eq_div_mul,show 64-8 * (k+1)=56-8 * k from by omega]
  generalize u/2^(56-8 * k)=v
  omega
theorem deTo_beTo (u:Nat)(h:u<18446744073709551616)(r:List UInt8):deTo (beTo u 8++r) 8=u:=by
 rw[deTo_beTo_at u h r 8 (Nat.le_refl _)]
 simp
theorem deTo_be8 {n:Int}(h:-9223372036854775808≤n∧n≤9223372036854775807)(r:List UInt8):(deTo (be8 n++r) 8:Int)-9223372036854775808=n:=by
 rw[be8,deTo_beTo _ (flipN_lt n)]
 unfold flipN
 omega
theorem be8_length (n:Int):(be8 n).length=8:=by rw[be8,beTo_length]
theorem untext_escTo (s r:List UInt8):untext (escTo s++0::1::r)=some (s,r):=by
 induction s with
 |nil=>rw[escTo,List.nil_append,untext_one]
 |cons c s ih =>
  rw[escTo]
  split
  ·rename_i h;subst h
   simp only[List.cons_append,List.nil_append]
   rw[untext_esc,ih];rfl
  ·rename_i h
   simp only[List.cons_append,List.nil_append]
   rw[untext_ne _ h,ih];rfl
theorem val_eq {x:Val}{k n s:Int}{t:List UInt8}(h1:x.kind=k)(h2:x.n=n)(h3:x.scale=s)(h4:x.s=t):(⟨k,n,s,t⟩:Val)=x:=by
 cases x;simp_all
theorem nextS_enc0 {x:Val}(hr:right x=true)(h:x.in64)(r:List UInt8):nextS (enc0 x++r)=some (x,r):=by
 unfold right at hr
 unfold Val.in64 at h
 unfold enc0
 split at hr
 ·rename_i hk
  simp only[decide_eq_true_eq] at hr
  rw[hk]
  simp only[nextS,hk]
  simp
  exact val_eq hk hr.1 hr.2.1 hr.2.2
 split at hr
 ·rename_i hk
  simp only[decide_eq_true_eq] at hr
  rw[hk]
  simp[nextS,hk]
  refine val_eq hk ?_ hr.2.1 hr.2.2
  omega
 split at hr
 ·rename_i hk
  simp only[decide_eq_true_eq] at hr
  rw[hk]
  simp only[nextS,hk]
  simp[be8_length,deTo_be8 h]
  exact val_eq hk rfl hr.1 hr.2
 split at hr
 ·rename_i hk
  simp only[decide_eq_true_eq] at hr
  rw[hk]
  simp only[nextS,hk]
  simp[be8_length,deTo_be8 h]
  refine val_eq hk rfl ?_ hr.1
  omega
 split at hr
 ·rename_i hk
  simp only[Bool.and_eq_true,decide_eq_true_eq] at hr
  rw[hk]
  simp only[nextS,hk]
  simp[untext_escTo]
  exact val_eq hk hr.1.1 hr.1.2.1 rfl
 split at hr
 ·rename_i hk
  simp only[decide_eq_true_eq] at hr
  rw[hk]
  simp only[nextS,hk]
  simp[untext_escTo]
  exact val_eq hk hr.1 hr.2.1 rfl
 ·cases hr
theorem nextV_enc {x:Val}(h:x.in64)(r:List UInt8):nextV (enc x++r)=some (plain x,r):=by
 unfold nextV enc
 rw[nextS_enc0 (right_plain x) (plain64 h)]
 simp[right_plain]
theorem encs_cons (x:Val)(l:List Val):encs (x::l)=enc x++encs l:=rfl
theorem enc_ne (x:Val)(r:List UInt8):enc x++r≠[]:=by simp[enc,enc0]
theorem getV_encs:∀ (l:List Val),(∀ x∈l,x.in64)→getV (encs l)=some (l.map plain)
 |[],_=>rfl
 |x::l,h=>by
  rw[encs_cons,getV_step (enc_ne _ _),nextV_enc (h x (by simp))]
  dsimp only
  rw[getV_encs l (fun y hy=>h y (by simp[hy]))]
  rfl
end Go.Proofs.YthjmjoioagocdaaGreatDoor
end
section
namespace Go.Proofs.YthjmjoioagocdaaGreatDoor
open Go.RowKit
def strip (l:List UInt8):List UInt8:=(l.reverse.dropWhile (· == 255)).reverse
def bump (l:List UInt8):List UInt8:=match l.getLast? with|none=>[]|some c=>l.dropLast++[c+1]
def aboveL (l:List UInt8):List UInt8:=bump (strip l)
theorem strip_last {l:List UInt8}:strip (l++[255])=strip l:=by simp[strip]
theorem strip_stop {l:List UInt8}{c:UInt8}(h:c≠255):strip (l++[c])=l++[c]:=by simp[strip,h]
theorem bump_last (l:List UInt8)(c:UInt8):bump (l++[c])=l++[c+1]:=by simp[bump]
theorem take_last {l:List UInt8}{k:Nat}{c:UInt8}(h:l[k]? = some c):l.take (k+1)=l.take k++[c]:=by
 have hk:k<l.length:=by
  rcases Nat.lt_or_ge k l.length with h' | h'
  ·exact h'
  ·rw[List.getElem?_eq_none h'] at h;cases h
 rw[List.take_succ_eq_append_getElem hk]
 congr 2
 rw[List.getElem?_eq_getElem hk] at h;injection h
theorem OwnB.upto {w:World}{B:Nat}{A:Option Addr}{c:Nat}{l:List UInt8}(h:OwnB w B (.slice A l.length c) l){k:Nat}(hk:k≤l.length):OwnB w B (.slice A k c) (l.take k):=by
 have hl:(l.take k).length=k:=by rw[List.length_take];omega
 unfold OwnB World.ownsRow
 rw[hl]
 refine⟨by rw[bvs_length,hl];omega,?_⟩
 rcases h.2 with ⟨e,h0⟩|⟨g,cap,cur,e,hg,hh,hnc,hcm,hsz,ht⟩
 ·injection e with e1 e2 e3
  left
  obtain rfl:k=0:=by omega
  exact⟨by rw[e1,e3],rfl⟩
 ·injection e with e1 e2 e3
  right
  refine⟨g,cap,cur,by rw[e1,e3],hg,hh,by omega,hcm,hsz,?_⟩
  have:bvs (l.take k)=(bvs l).take k:=by simp[bvs]
  rw[this,← ht,List.take_take]
  congr 1
  omega
set_option maxRecDepth 100000 in
set_option maxHeartbeats 1000000 in
theorem keysAbove_any (w:World) (A:Option Addr) (n c:Nat) (l:List UInt8) (hs:Sl w 1 A n c (bvs l)) (hn:n≤1000000) :
  Calls Tryz.prog 50 #[.slice A n c] w (NewBytes w (aboveL l)):=by
 obtain⟨ANS,hA⟩:∃ r,aboveL l=r:=⟨_,rfl⟩
 rw[hA]
 have HA:=hide hA
 have hlen:=hs.blen
 subst hlen
 have hcl:=clone_any w A _ c l hs (by omega)
 have Hcl:=hide hcl
 clear hA hs hcl
 go_enter Tryz.func50,Tryz.ntmps50
 go_wp2_with (go_at_call 80;refine (unhide Hcl).mono ?_;rintro e w1 ⟨A1,c1,rfl,ho,hs1,hb⟩)
 go_loop [3] (fun v=>∃ k:Nat,k≤l.length∧v=.slice A1 k c1∧Hid (bump (strip (l.take k))=ANS)) (fun v=>match v with|.slice _ k _=>k|_=>0)
 case atStart=>exact⟨l.length,by omega,rfl,hide (by rw[List.take_of_length_le (Nat.le_refl _)];exact unhide HA)⟩
 case round =>
  obtain⟨k,hk,rfl,hv⟩:=hrel
  clear HA
  have hsk:=hs1.upto (k:=k) hk
  have hnc:=hs1.nc
  rcases k with _|k
  ·have hend:ANS=[]:=by rw[← unhide hv];rfl
   subst hend
   go_wp2_with fail
   go_ret
   exact⟨none,0,rfl,OwnB.nil _ _,Sl.zero _ _ _ _ (by simp[maxLen]),hb⟩
  ·have hk1:k<l.length:=by omega
   obtain⟨b,off,x,hA1,hblt,hx,hcell⟩:=hs1.byte hk1
   subst hA1
   have hbytes:(0:Int)<(k:Int)+1:=by omega
   have h255:(x.toNat:Int)<256:=by have:=x.toNat_lt;omega
   have h0:(0:Int)≤(x.toNat:Int):=by omega
   have hk2:(k:Int)<(k:Int)+1:=by omega
   have hk3:(k:Int)+1≤(c1:Int):=by omega
   by_cases hx2:x=255
   ·have hz:(x.toNat:Int)=255:=by rw[hx2];rfl
    have hv2:Hid (bump (strip (l.take k))=ANS):=hide (by
     have:=unhide hv
     rw[take_last hx,hx2,strip_last] at this
     exact this)
    clear h255 h0 hx hx2
    go_wp2_with fail
    go_round
    case rel=>exact⟨k,by omega,rfl,hv2⟩
    case measure=>exact Nat.lt_succ_self _
   ·have hz:((x.toNat:Int)==255)=false:=beq_u8 (n:=255) (by omega) hx2
    have hend:ANS=l.take k++[x+1]:=by
     have:=unhide hv
     rw[take_last hx,strip_stop hx2,bump_last] at this
     exact this.symm
    subst hend
    have hoff:off=0:=by
     rcases ho.2 with ⟨e,_⟩|⟨g,cap,cur,e,_⟩
     ·cases e
     ·injection e with e1 e2 e3
      injection e1 with e1
      injection e1
    subst hoff
    simp only[Nat.zero_add] at hcell
    have hfr:=World.ownsRow.frozenAt ho k
    have hst:=take_last hx
    have HST:=hide hst
    have hlk:(l.take k).length=k:=by rw[List.length_take];omega
    have HLK:=hide hlk
    clear hx hst hlk hsk
    go_wp2_with fail
    go_ret
    have hu:=ho.upto (k:=k+1) hk
    rw[unhide HST] at hu
    have h1:(l.take k++[x]).length=k+1:=by rw[List.length_append,unhide HLK];rfl
    unfold OwnB at hu
    rw[h1] at hu
    obtain⟨h2,h3⟩:=World.ownsRow.stored hu k (.int .u8 (((x.toNat:Int)+1)%256))
    have h4:(bvs (l.take k++[x])).set k (.int .u8 (((x.toNat:Int)+1)%256))=bvs (l.take k++[x+1]):=by
     rw[bvs_append,bvs_append,List.set_append_right _ _ (by rw[bvs_length,unhide HLK];exact Nat.le_refl _),bvs_length,unhide HLK,Nat.sub_self]
     congr 1
    rw[h4] at h2
    have h5:(l.take k++[x+1]).length=k+1:=by rw[List.length_append,unhide HLK];rfl
    have h6:OwnB (w1.setCell ⟨b,k,none⟩ (.int .u8 (((x.toNat:Int)+1)%256))) w.heap.size (.slice (some ⟨b,0,none⟩) (l.take k++[x+1]).length c1) (l.take k++[x+1]):=by
     unfold OwnB
     rw[h5]
     exact h2
    exact⟨some ⟨b,0,none⟩,c1,by rw[h5];rfl,h6,h6.sl,hb.trans (Below.setCell (Below.refl _ _) (own_lies ho b rfl) _)⟩
def cmpN (a b:Int):Int:=if a<b then -1 else if b<a then 1 else 0
def textCmp:List UInt8→List UInt8→Int
 |[],[]=>0
 |[],_::_=>-1
 |_::_,[]=>1
 |a::x,b::y=>if a=b then textCmp x y else cmpN a.toNat b.toNat
theorem textCmp_same (a x y:List UInt8):textCmp (a++x) (a++y)=textCmp x y:=by
 induction a with
 |nil=>rfl
 |cons c a ih=>simp only[List.cons_append,textCmp,if_true];exact ih
theorem cmpN_lt {a b:Int}(h:a<b):cmpN a b=-1:=if_pos h
theorem cmpN_gt {a b:Int}(h:b<a):cmpN a b=1:=by unfold cmpN;rw[if_neg (by omega),if_pos h]
theorem u8_ne_toNat {x y:UInt8}(h:x≠y):x.toNat≠y.toNat:=fun e=>h (UInt8.toNat_inj.1 e)
theorem succ_toNat {x:UInt8}(h:x≠255):(x+1).toNat=x.toNat+1:=by
 have h1:=u8_ne_toNat h
 have h2:=x.toNat_lt
 rw[UInt8.toNat_add]
 have:(1:UInt8).toNat=1:=rfl
 have h3:(255:UInt8).toNat=255:=rfl
 omega
theorem ff_begins:∀ (m:Nat) (r:List UInt8),(m≤r.length∧r.take m=List.replicate m 255)∨textCmp r (List.replicate m 255)<0
 |0,r=>.inl ⟨by omega,by simp⟩
 |m+1,[]=>.inr (by simp[List.replicate_succ,textCmp])
 |m+1,c::r=>by
  by_cases h:c=255
  ·subst h
   rcases ff_begins m r with ⟨h1,h2⟩|h1
   ·exact .inl ⟨by simp;omega,by simp[List.replicate_succ,h2]⟩
   ·exact .inr (by simpa [List.replicate_succ,textCmp] using h1)
  ·have h1:=u8_ne_toNat h
   have h2:=c.toNat_lt
   have h3:(255:UInt8).toNat=255:=rfl
   right
   rw[List.replicate_succ,textCmp,if_neg h,cmpN_lt (by omega)]
   omega
theorem between (x:UInt8)(hx:x≠255)(m:Nat):∀ (p l:List UInt8),
  ((p++x::List.replicate m 255).length≤l.length∧l.take (p++x::List.replicate m 255).length=p++x::List.replicate m 255)∨textCmp l (p++x::List.replicate m 255)<0∨0≤textCmp l (p++[x+1])
 |[],[]=>.inr (.inl (by simp[textCmp]))
 |_::_,[]=>.inr (.inl (by simp[textCmp]))
 |[], y::r=>by
  have hs:=succ_toNat hx
  rcases Nat.lt_trichotomy y.toNat x.toNat with h|h|h
  ·refine .inr (.inl ?_)
   have:y≠x:=fun e=>by subst e;omega
   rw[List.nil_append,textCmp,if_neg this,cmpN_lt (by omega)]
   omega
  ·obtain rfl:y=x:=UInt8.toNat_inj.1 h
   rcases ff_begins m r with ⟨h1,h2⟩|h1
   ·exact .inl ⟨by simp;omega,by simp[h2]⟩
   ·exact .inr (.inl (by rw[List.nil_append,textCmp,if_pos rfl];exact h1))
  ·refine .inr (.inr ?_)
   by_cases e:y=x+1
   ·rw[List.nil_append,textCmp,if_pos e]
    cases r<;>simp[textCmp]
   ·have:=u8_ne_toNat e
    rw[List.nil_append,textCmp,if_neg e,cmpN_gt (by omega)]
    omega
 |a::p,y::r=>by
  rcases Nat.lt_trichotomy y.toNat a.toNat with h|h|h
  ·refine .inr (.inl ?_)
   have:y≠a:=fun e=>by subst e;omega
   rw[List.cons_append,textCmp,if_neg this,cmpN_lt (by omega)]
   omega
  ·obtain rfl:y=a:=UInt8.toNat_inj.1 h
   rcases between x hx m p r with ⟨h1,h2⟩|h1|h1
   ·refine .inl ⟨by simp at h1 ⊢;omega,?_⟩
    simp only[List.cons_append,List.length_cons,List.take_succ_cons]
    rw[h2]
   ·exact .inr (.inl (by rw[List.cons_append,textCmp,if_pos rfl];exact h1))
   ·exact .inr (.inr (by rw[List.cons_append,textCmp,if_pos rfl];exact h1))
  ·refine .inr (.inr ?_)
   have:y≠a:=fun e=>by subst e;omega
   rw[List.cons_append,textCmp,if_neg this,cmpN_gt (by omega)]
   omega
theorem strip_form:∀ (k:Nat) (l:List UInt8),l.length=k→(strip l=[]∨∃ p x m,x≠255∧l=p++x::List.replicate m 255∧strip l=p++[x]):=by
 intro k
 induction k with
 |zero =>
  intro l h
  have:l=[]:=List.eq_nil_of_length_eq_zero h
  subst this
  exact .inl rfl
 |succ k ih =>
  intro l h
  have hne:l≠[]:=by intro e;subst e;simp at h
  have hl:=List.dropLast_concat_getLast hne
  generalize l.dropLast=q at hl
  generalize l.getLast hne=c at hl
  subst hl
  have hq:q.length=k:=by simpa using h
  by_cases hc:c=255
  ·subst hc
   rw[strip_last]
   rcases ih q hq with h1|⟨p,x,m,hx,h1,h2⟩
   ·exact .inl h1
   ·exact .inr ⟨p,x,m+1,hx,by rw[h1,List.replicate_succ'];simp,h2⟩
  ·exact .inr ⟨q,c,0,hc,by simp,strip_stop hc⟩
theorem above_law (b rest:List UInt8)(h:aboveL b≠[]):textCmp (b++rest) (aboveL b)<0 ∧
  ((b.length≤rest.length∧rest.take b.length=b)∨textCmp rest b<0∨0≤textCmp rest (aboveL b)):=by
 rcases strip_form _ b rfl with h1|⟨p,x,m,hx,h1,h2⟩
 ·exact absurd (by rw[aboveL,h1];rfl) h
 ·have ha:aboveL b=p++[x+1]:=by rw[aboveL,h2,bump_last]
  rw[ha]
  constructor
  ·rw[h1,List.append_assoc,textCmp_same]
   have hs:=succ_toNat hx
   have:x≠x+1:=fun e=>by have:=congrArg UInt8.toNat e;omega
   rw[List.cons_append,textCmp,if_neg this,cmpN_lt (by omega)]
   omega
  ·have:=between x hx m p rest
   rw[← h1] at this
   exact this
theorem pow256_le {j:Nat}(h:j≤6):((256^j:Nat):Int)≤281474976710656:=by
 have:=Nat.pow_le_pow_right (show 0<256 by omega) h
 omega
set_option maxHeartbeats 1000000 in
theorem power_any (k:Nat) (hk:k≤7) (w:World):Calls Tryz.prog 108 #[.int .i64 (k:Int)] w fun e w'=>e=.returned (.int .u64 ((256^k:Nat):Int))∧w=w':=by
 go_enter Tryz.func108,Tryz.ntmps108
 go_wp2_with fail
 go_loopw [3,4] (fun p i wr=>∃ (j:Nat) (q:Int),j≤k∧i=.int .i64 (j:Int)∧p=.int .u64 q∧Hid (q=((256^j:Nat):Int))∧w=wr) (fun _ i _=>k-(intOf i).toNat)
 case atStart=>exact⟨0,1,by omega,rfl,rfl,hide rfl,rfl⟩
 case round =>
  obtain⟨j,q,hj,rfl,rfl,hq,rfl⟩:=hrel
  by_cases hlt:j<k
  ·have hlt':(j:Int)<(k:Int):=by omega
   have h0:0≤q:=by rw[unhide hq];exact Int.natCast_nonneg _
   have h1:q≤281474976710656:=by rw[unhide hq];exact pow256_le (by omega)
   have hn:Hid (q * 256=((256^(j+1):Nat):Int)):=hide (by rw[unhide hq,Nat.pow_succ];omega)
   go_wp2_with fail
   go_roundw
   case rel=>exact⟨j+1,q * 256,by omega,by go_num,by go_num,hn,trivial⟩
   case measure=>exact (by first|(simp[intOf];done)|(simp[intOf];omega))
  ·obtain rfl:j=k:=by omega
   go_wp2_with fail
   go_ret
   have e:=unhide hq
   subst e
   exact⟨rfl,rfl⟩
def loB (u:Nat):Nat→List UInt8
 |0=>[]
 |i+1=>UInt8.ofNat (u/256^i%256)::loB u i
theorem ofNat_eq {a b:Nat}(h:a=b):UInt8.ofNat a=UInt8.ofNat b:=by rw[h]
theorem be8_loB (n:Int)(u:Nat)(hu:u=(n%18446744073709551616).toNat):be8 n=UInt8.ofNat ((u/256^7%256+128)%256)::loB u 7:=by
 have hf:flipN n=(u+9223372036854775808)%18446744073709551616:=by
  rw[hu];unfold flipN;omega
 have hlt:u<18446744073709551616:=by omega
 clear hu
 unfold be8 beTo
 rw[hf]
 simp only[List.range_succ,List.range_zero,List.nil_append,List.cons_append,List.map_cons,List.map_nil,loB]
 simp only[Nat.reduceMul,Nat.reduceSub,Nat.reducePow,List.cons.injEq,and_true]
 refine⟨ofNat_eq ?_,ofNat_eq ?_,ofNat_eq ?_,ofNat_eq ?_,ofNat_eq ?_,ofNat_eq ?_,ofNat_eq ?_,ofNat_eq ?_⟩<;>omega
theorem OwnB.one (w:World)(B:Nat)(c:UInt8)(i:Int)(hi:i=(c.toNat:Int))(h:B≤w.heap.size):OwnB (w.alloc (.cells #[.int .u8 i] 5)) B (.slice (some ⟨w.heap.size,0,none⟩) 1 1) [c]:=by
 subst hi
 exact⟨rfl,.inr ⟨w.heap.size,1,#[.int .u8 (c.toNat:Int)],rfl,h,heap_alloc_new w _,Nat.le_refl _,by simp[maxLen],rfl,rfl⟩⟩
theorem byte_mod (d:Nat):(d:Int)%256=((UInt8.ofNat (d%256)).toNat:Int):=by
 rw[UInt8.toNat_ofNat']
 omega
theorem byte_xor (c:UInt8):bits BinOp.xor IntKind.u8 (c.toNat:Int) 128=((c.toNat:Int)+128)%256:=by
 rw[xor_u8_top _ c.toNat_lt]
 omega
theorem byte_xor' (c:UInt8):((c.toNat:Int)+128)%256=((UInt8.ofNat ((c.toNat+128)%256)).toNat:Int):=by
 rw[UInt8.toNat_ofNat']
 omega
set_option maxHeartbeats 1000000 in
theorem bytes8_any (n:Int) (w:World):Calls Tryz.prog 77 #[.int .i64 n] w (Ret w (.string ⟨(be8 n).toArray⟩)):=by
  obtain ⟨u,hu⟩:∃ u:Nat,u=(n % 18446744073709551616).toNat:=⟨_,rfl⟩
  have hb8:=be8_loB n u hu
  have hwu:IntKind.u64.wrap n=(u:Int):=by rw [wrapu_nat,hu]
  have hlt:u < 18446744073709551616:=by omega
  obtain ⟨ANS,hA⟩:∃ a,be8 n=a:=⟨_,rfl⟩
  rw [hA] at hb8 ⊢
  have HA:=hide hb8
  clear hb8 hu hA
  go_enter Tryz.func77,Tryz.ntmps77
  go_wp2_with fail
  go_loopw [3,4] (fun b i wr=>∃ (j:Nat) (l:List UInt8),j≤8∧i=.int .i64 (j:Int)∧l.length=j∧OwnB wr w.heap.size b l∧Hid (l=loB u j)∧Below w.heap.size w wr) (fun _ i _=>8 - (intOf i).toNat)
  case atStart=>exact ⟨0,[],by omega,rfl,rfl,OwnB.nil _ _,hide rfl,Below.refl _ _⟩
  case round =>
    obtain ⟨j,l,hj,rfl,hl,ho,hlo,hb⟩:=hrel
    have hbs:=hb.size
    by_cases hlt':j < 8
    · have hjlt:(j:Int) < 8:=by omega
      obtain ⟨q,hq⟩:∃ q:Nat,256 ^ j=q:=⟨_,rfl⟩
      have hq0:0 < q:=by rw [← hq];exact Nat.pow_pos (by omega)
      have hq0':(0:Int) < (q:Int):=by omega
      have hc:=fun W=>power_any j (by omega) W
      simp only [hq] at hc
      have Hc:=hide hc
      have HQ:=hide hq
      have HL:=hide hl
      have hj8:j≤7:=by omega
      obtain ⟨d,hd⟩:∃ d:Nat,u / q=d:=⟨_,rfl⟩
      have hdu:d≤u:=by rw [← hd];exact Nat.div_le_self _ _
      have hwd:IntKind.u64.wrap ((u:Int) / (q:Int))=(d:Int):=by
        rw [← Int.natCast_ediv,hd,IntKind.wrap_u64];omega
      have HD:=hide hd
      have hl8:l.length≤8:=by omega
      clear hc hq hl hd
      obtain ⟨A1,c1,hv,hs1⟩:=ho.form
      subst hv
      go_wp2_with (first
        | (go_at_call 108;refine (unhide Hc _).mono ?_;rintro e w1 ⟨rfl,rfl⟩)
        | (refine app_bytes rfl (.tmp 16) (.tmp 17) rfl rfl (OwnB.one _ w.heap.size (UInt8.ofNat (d % 256)) _ (byte_mod d) (by omega)) rfl (hs1.alloc _) ?_ ?_ ?_;(· simp;omega);(· simp;omega);intro v2 w2 ho2 hx2))
      go_roundw
      case rel =>
        refine ⟨j + 1,_,by omega,by go_num,?_,ho2,hide ?_,?_⟩
        · simp [unhide HL]
        · rw [loB,← unhide hlo,unhide HQ,unhide HD];rfl
        · exact (show Below w.heap.size w (wr.alloc _) from (by repeat (first | with_reducible exact Below.refl _ _ | with_reducible assumption | ((with_reducible refine Below.alloc ?_ ?_ _);rotate_left;(first | exact Nat.le_refl _ | (simp;done) | (simp;omega) | omega)) | ((with_reducible refine Below.setCell ?_ ?_ _);rotate_left;(first | exact Nat.le_refl _ | (simp;done) | (simp;omega) | omega)) | (with_reducible refine Below.drew ?_) | (with_reducible refine bdrewN ?_ _)))).trans (hx2.below (by simp;omega) (fun k hk=>by have h2:some wr.heap.size=some k:=hk;injection h2 with h2;omega))
      case measure=>exact (by first | (simp [intOf];done) | (simp [intOf];omega))
    · obtain rfl:j=8:=by omega
      match l,hl,hlo,ho with
      | c :: l,hl,hlo,ho =>
        have e:=unhide hlo
        rw [loB] at e
        injection e with e1 e2
        obtain ⟨g,cap,hv,hg⟩:∃ g cap,u3=.slice (some ⟨g,0,none⟩) 8 cap∧w.heap.size≤g:=by
          rcases ho.2 with ⟨_,h0⟩ | ⟨g,cap,cur,e,hg,_⟩
          · simp at h0
          · exact ⟨g,cap,by rw [e,hl],hg⟩
        subst hv
        have ho':wr.ownsRow w.heap.size 5 1 (.slice (some ⟨g,0,none⟩) 8 cap) 8 (bvs (c :: l)):=by
          have:=ho
          unfold OwnB at this
          rw [hl] at this
          exact this
        have hfr:=World.ownsRow.frozenAt ho' 0
        obtain ⟨b,o,hA,hblt,hcell⟩:=ho.sl.at_ (by omega)
        injection hA with hA
        injection hA with hA1 hA2
        subst hA1 hA2
        have h0:=hcell 0 (bv c) rfl
        simp only [bv,Nat.add_zero] at h0
        obtain ⟨h2,h3⟩:=World.ownsRow.stored ho' 0 (.int .u8 (((c.toNat:Int) + 128) % 256))
        have h4:OwnB (wr.setCell ⟨g,0,none⟩ (.int .u8 (((c.toNat:Int) + 128) % 256))) w.heap.size (.slice (some ⟨g,0,none⟩) 8 cap) (UInt8.ofNat ((c.toNat + 128) % 256) :: l):=by
          unfold OwnB
          rw [List.length_cons,show l.length + 1=8 from hl]
          rw [byte_xor' c] at h2 ⊢
          exact h2
        have hx:=byte_xor c
        have hs4:=h4.sl
        have hbb:=hb.setCell (p:=⟨g,0,none⟩) hg (.int .u8 (((c.toNat:Int) + 128) % 256))
        have hcap:=ho.sl.nc
        have hcm:=ho.sl.cm
        have hfin:(c.toNat + 128) % 256=(u / 256 ^ 7 % 256 + 128) % 256:=by rw [e1,UInt8.toNat_ofNat'];omega
        have HF:=hide hfin
        have HE:=hide e2
        clear h2 h3 h4 ho ho' hl e1 e2 hfin hlo hcell
        go_wp2_with ((refine wpList_sl_string rfl 108 9 5 (.tmp 24) rfl Tryz.underlying108 Tryz.underlying5 Tryz.underlying9 rfl (hs4) ?_))
        go_ret
        refine ⟨?_,hbb⟩
        rw [unhide HA,unhide HF,unhide HE]
        rfl
end Go.Proofs.YthjmjoioagocdaaGreatDoor
end
section
namespace Go.Proofs.YthjmjoioagocdaaGreatDoor
open Go.ChangeShapes Go.WideShapes Go.ChangeAt Go.RowKit
theorem trodAll_below {H:Type}{enc:TypeId×Value→H}{P:Program}(hl:laidOutB P=true){W W':World}(hb:Below W.heap.size W W'):∀ {ts:List TypeId} {vs:List Value} {ds:List (DataW H)} {ps:List MemPlace},
  (∀ t∈ts,P.readableRec t=true∧t<P.types.size)→DataW.TrodAll enc P W 0 (fun _=>true) true ts vs ds ps→(∀ x∈ps,x.block<W.heap.size)→DataW.TrodAll enc P W' 0 (fun b=>decide (b<W.heap.size)) true ts vs ds ps
 |[],vs,ds,ps,_,h,_=>by
  cases vs<;>cases ds<;>simp_all [DataW.TrodAll]
 |t::ts,vs,ds,ps,ht,h,hlt=>by
  obtain⟨v,vs',d,ds',p,q,rfl,rfl,rfl,h0,h1⟩:=trodAll_cons h
  exact trodAll_cons_mk (Below.trod hl (ht t (by simp)).1 (ht t (by simp)).2 h0 hb (fun x hx=>hlt x (by simp[hx])))
   (trodAll_below hl hb (fun t' ht'=>ht t' (by simp[ht'])) h1 (fun x hx=>hlt x (by simp[hx])))
theorem law_post {H:Type}{enc:TypeId×Value→H}{P:Program}{f:Func}{s:ChangeSpec}{W W':World}{args:Array Value}{ds gs:List (DataW H)}{before:List MemPlace}{tb:TypeId}
  (hl:laidOutB P=true) (ht:∀ t∈f.params.toList,P.readableRec t=true∧t<P.types.size) (htb:P.underlying tb=some .bool) (hf:f.resultTypes=#[tb])
  (hW:DataW.Whole enc P f.params.toList s.vars false W args.toList ds gs before) (hv:s.vars=[])
  (hr:(s.fn H (ds++gs)).results=[.lit (.bool true)]) (ha:(s.fn H (ds++gs)).args=ds) (hvs:(s.fn H (ds++gs)).vars=[]) (hb:Below W.heap.size W W') :
  s.post enc P f false true false false W args (.bool true) W':=by
 have hlt:=hW.lt
 have hW2:=hW
 obtain⟨p,q,hA,hV,rfl,_,_⟩:=hW
 rw[hv] at hV
 obtain⟨rfl,rfl⟩:=trodVars_none hV
 refine⟨ds,[],p++[],[],p,[],hW2,?_,?_,?_,hb.frame _,fun h=>by cases h⟩
 ·rw[hr,hf]
  exact trodAll_cons_mk (shut_bool htb _) trodAll_mk0
 ·rw[ha]
  exact trodAll_below hl hb ht hA (fun x hx=>hlt x (by simp[hx]))
 ·rw[hv,hvs]
  rfl
theorem tabs_of_laid {W:World}(h:laidMetH Tryz.prog [("unicode/utf8.acceptRanges", Rows.laid_unicode_utf8_acceptRanges),("unicode/utf8.first", Rows.laid_unicode_utf8_first)] W):Tabs W:=by
 have h':laidMet Tryz.prog [("unicode/utf8.acceptRanges", Rows.laid_unicode_utf8_acceptRanges),("unicode/utf8.first", Rows.laid_unicode_utf8_first)] W:=h
 have e1:Lib.firstData=Rows.laid_unicode_utf8_first:=by kernel_rfl
 have e2:Lib.acceptData=Rows.laid_unicode_utf8_acceptRanges:=by kernel_rfl
 exact tabs_of_reads (Lib.laidMet.reads (n := "unicode/utf8.first") (d:=Lib.firstData) h' (by rw[e1];exact List.mem_cons_of_mem _ (List.mem_cons_self ..)))
  (Lib.laidMet.reads (n := "unicode/utf8.acceptRanges") (d:=Lib.acceptData) h' (by rw[e2];exact List.mem_cons_self ..))
theorem own:ownKnob Tryz.prog.godebug=none:=by kernel_rfl
def holdCells (cs:Array Value):Obj→Obj
 | .cells _ t frozen=>.cells cs t frozen
 |o=>o
def firstCells:Array Value:=(Lib.firstTab.map (Value.int .u8)).toArray
def acceptCells:Array Value:=((List.range 16).flatMap fun i=>[Value.int .u8 (Lib.accLo i),Value.int .u8 (Lib.accHi i)]).toArray
noncomputable def laidWorld (os:Os):World :=
 {World.holding Tryz.prog os ⟨#[],#[],[]⟩ with heap:=((World.holding Tryz.prog os ⟨#[],#[],[]⟩).heap.modify 0 (holdCells firstCells)).modify 1 (holdCells acceptCells) }
end Go.Proofs.YthjmjoioagocdaaGreatDoor
end
section
set_option maxRecDepth 100000
namespace Go.Proofs.YthjmjoioagocdaaGreatDoor
open Go.ChangeShapes Go.WideShapes Go.ChangeAt Go.RowKit Go.Deep
instance:Inhabited Val:=⟨vnull⟩
end Go.Proofs.YthjmjoioagocdaaGreatDoor
end
