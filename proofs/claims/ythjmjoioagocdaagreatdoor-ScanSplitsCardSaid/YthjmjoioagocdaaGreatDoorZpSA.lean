/-
  Lemmas, part S1: what the claim needs of the texts of wip/tpl.
-/
import Derived.Laws.IdiomCopy
import Derived.Shelf.Spec.SearchS
import Derived.Deep.LoopGhost
import Derived.Deep.Draws
import Derived.LoopTactic
import Derived.Deep.QuietTactic
import Derived.Shelf.RegionOpenPlain
import Derived.Lib.AppendZerosOnto
import Derived.Lib.SliceRun
import Derived.Laws.AppendOwn
import Derived.Deep.RegionLaw
import Derived.Shelf.Spec.SlicesInsertGrow
import Derived.Test.YthjmjoioagocdaaGreatDoorZpPD
set_option linter.unusedVariables false
set_option linter.unusedSimpArgs false
section
set_option maxRecDepth 100000
namespace Go.Proofs.YthjmjoioagocdaaGreatDoor.TS
open Go.RowKit Go.Lib
structure Upd (b:Nat)(w w':World):Prop where
 os:w'.os=w.os
 tape:w'.tape=w.tape
 output:w'.output=w.output
 size:w'.heap.size=w.heap.size
 block:∀ k,k≠b→w'.heap[k]? = w.heap[k]?
 row:∀ cur e fz,w.heap[b]? = some (.cells cur e fz)→∃ cur',w'.heap[b]? = some (.cells cur' e fz)∧cur'.size=cur.size
theorem Upd.refl (b:Nat)(w:World):Upd b w w:=⟨rfl,rfl,rfl,rfl,fun _ _=>rfl,fun cur _ _ h=>⟨cur,h,rfl⟩⟩
theorem Upd.trans {b:Nat}{u v w:World}(h:Upd b u v)(k:Upd b v w):Upd b u w:=⟨k.os.trans h.os,k.tape.trans h.tape,k.output.trans h.output,k.size.trans h.size,fun x hx=>(k.block x hx).trans (h.block x hx),fun cur e fz q=>by
 obtain⟨c1,h1,h2⟩:=h.row cur e fz q
 obtain⟨c2,k1,k2⟩:=k.row c1 e fz h1
 exact⟨c2,k1,k2.trans h2⟩⟩
theorem Upd.drew {b:Nat}{u v:World}(h:Upd b u v):Upd b u v.drew:=⟨h.os,h.tape,h.output,h.size,h.block,h.row⟩
theorem Upd.setCell (b o:Nat)(v:Value)(w:World):Upd b w (w.setCell ⟨b,o,none⟩ v) where
 os:=rfl
 tape:=rfl
 output:=rfl
 size:=by simp[World.setCell]
 block:=fun k hk=>by simp[World.setCell,Array.getElem?_modify,Ne.symm hk]
 row:=fun cur e fz h=>⟨cur.setIfInBounds o v,by simp[World.setCell,Array.getElem?_modify,h],by simp⟩
theorem Upd.setCells (b:Nat):∀ (vs:List Value) (o:Nat) (w:World),Upd b w (w.setCells b o vs)
 |[],_,w=>Upd.refl b w
 |v::r,o,w=>(Upd.setCell b o v w).trans (Upd.setCells b r (o+1) _)
theorem Upd.step {b:Nat}{u v:World}(h:Upd b u v)(o:Nat)(vs:List Value):Upd b u (v.setCells b o vs):=h.trans (Upd.setCells b vs o v)
theorem Upd.move {M:Mem}{b:Nat}{w':World}(h:Upd b M.w w')(h0:M.U b=0):Move M ⟨w',M.U,M.y⟩ (some b) where
 os:=h.os
 tape:=h.tape
 output:=h.output
 size:=Nat.le_of_eq h.size.symm
 block:=fun k _ hk=>⟨h.block k (fun e=>hk (by rw[e])),rfl⟩
 le:=⟨fun k o u h1 h2=>by
  by_cases e:k=b
  ·subst e;rw[h0] at h2;omega
  ·exact⟨(World.cell?_of_block (w:=M.w) (a:=⟨k,o,none⟩) (h.block k e)).trans h1,h2⟩,rfl,fun k n ⟨arr,e,h1,h2⟩=>by
  by_cases q:k=b
  ·subst q
   obtain⟨c,k1,k2⟩:=h.row _ _ _ h1
   exact⟨c,e,k1,by omega⟩
  ·exact⟨arr,e,(h.block k q).trans h1,h2⟩⟩
theorem rowP_cells {w:World}{b:Nat}{e:TypeId}{cur:Array Value}{arr:List Value}(h:w.heap[b]? = some (.cells cur e (0,0)))(hc:∀ j u,arr[j]? = some u→w.cell? ⟨b,j,none⟩=some u):RowP w b e arr:=by
 refine⟨cur.toList.drop arr.length,?_⟩
 rw[h]
 congr 2
 have hg:∀ j u,arr[j]? = some u→cur[j]? = some u:=fun j u hu=>by
  have:=hc j u hu
  rwa [cell_of_row _ _ _ cur e (0,0) h] at this
 apply Array.ext_getElem?
 intro j
 have e2:(arr++cur.toList.drop arr.length).toArray[j]? = (arr++cur.toList.drop arr.length)[j]? := List.getElem?_toArray
 rw[e2]
 rcases hj:arr[j]? with _|u
 ·have hl:arr.length≤j:=List.getElem?_eq_none_iff.1 hj
  rw[List.getElem?_append_right hl,List.getElem?_drop,show arr.length+(j-arr.length)=j by omega,Array.getElem?_toList]
 ·rw[List.getElem?_append_left (List.getElem?_eq_some_iff.1 hj).1,hj]
  exact hg j u hj
theorem sized_some {w:World}{b k:Nat}(h:Sized w b k){o:Nat}(ho:o<k):(w.cell? ⟨b,o,none⟩).isSome=true:=by
 obtain⟨arr,e,h1,h2⟩:=h
 rw[cell_of_row _ _ _ arr e (0,0) h1,Array.getElem?_eq_getElem (by omega)]
 rfl
theorem sized_fz {w:World}{b k:Nat}(h:Sized w b k)(o:Nat):w.frozen? ⟨b,o,none⟩=false:=by
 obtain⟨arr,e,h1,h2⟩:=h
 simp[World.frozen?,h1]
theorem Upd.sized {b:Nat}{w w':World}(h:Upd b w w'){k:Nat}(hs:Sized w b k):Sized w' b k:=by
 obtain⟨arr,e,h1,h2⟩:=hs
 obtain⟨c,k1,k2⟩:=h.row _ _ _ h1
 exact⟨c,e,k1,by omega⟩
theorem Upd.rowP {b:Nat}{w w':World}(h:Upd b w w'){e:TypeId}{arr arr':List Value}(hr:RowP w b e arr)(hc:∀ j u,arr'[j]? = some u→w'.cell? ⟨b,j,none⟩=some u):RowP w' b e arr':=by
 obtain⟨tl,hr⟩:=hr
 obtain⟨c,k1,k2⟩:=h.row _ _ _ hr
 exact rowP_cells k1 hc
end Go.Proofs.YthjmjoioagocdaaGreatDoor.TS
end
section
set_option maxRecDepth 1000000
namespace Go.Proofs.YthjmjoioagocdaaGreatDoor.TS
open Go.RowKit Go.Lib
set_option maxHeartbeats 1000000 in
theorem cmp_isNaN_s (x:ByteArray) (w:World):Calls Tryz.prog 145 #[.string x] w fun e w'=>e=.returned (.bool false)∧w'=w:=by
 go_enter Tryz.func145,Tryz.ntmps145
 go_wp2
 go_ret
 exact⟨by simp,rfl⟩
set_option maxHeartbeats 1000000 in
theorem sl_isNaN_s (x:ByteArray) (w:World):Calls Tryz.prog 140 #[.string x] w fun e w'=>e=.returned (.bool false)∧w'=w:=by
 go_enter Tryz.func140,Tryz.ntmps140
 go_wp2
 go_ret
 exact⟨by simp,rfl⟩
set_option maxHeartbeats 1000000 in
theorem cmp_Less_s (x y:ByteArray) (w:World):Calls Tryz.prog 139 #[.string x,.string y] w fun e w'=>e=.returned (.bool (Op.bytesLess x.toList y.toList))∧w'=w:=by
 go_enter Tryz.func139,Tryz.ntmps139
 go_wp2_with (go_at_call 145;refine (cmp_isNaN_s _ _).mono ?_;rintro e w' ⟨rfl,rfl⟩)
 go_ret
 exact⟨rfl,rfl⟩
set_option maxHeartbeats 4000000 in
set_option maxRecDepth 1000000 in
theorem bsearch_s (b off n c:Nat) (Sx:Nat→ByteArray) (x:ByteArray) (w:World) (hbig:n<4611686018427387904) (hc:∀ j,j<n→w.cell? ⟨b,off+j,none⟩=some (.string (Sx j))) :
    Calls Tryz.prog 113 #[.slice (some ⟨b,off,none⟩) n c,.string x] w fun e w' =>
      e=.returned (.tuple #[.int .i64 (Lib.bsGo (fun t=>Op.bytesLess (Sx t).toList x.toList) n 0 n:Nat),.bool (decide (Lib.bsGo (fun t=>Op.bytesLess (Sx t).toList x.toList) n 0 n<n∧Sx (Lib.bsGo (fun t=>Op.bytesLess (Sx t).toList x.toList) n 0 n)=x))])∧∃ q,w'=w.drewN q:=by
  have mixed:=Go.Proofs.YthjmjoioagocdaaGreatDoor.mixed
  obtain⟨I,hI⟩:∃ I,Lib.bsGo (fun t=>Op.bytesLess (Sx t).toList x.toList) n 0 n=I:=⟨_,rfl⟩
  rw[hI]
  go_enter Tryz.func113,Tryz.ntmps113
  go_wp2
  go_loopg [7,8] n (fun g s7 s8 wr=>∃ lo hi q:Nat,s7=.int .i64 lo∧s8=.int .i64 hi∧lo≤hi∧hi≤n∧hi-lo≤g∧wr=w.drewN q∧Lib.bsGo (fun t=>Op.bytesLess (Sx t).toList x.toList) g lo hi=I)
  case atStart=>exact⟨0,n,0,rfl,rfl,Nat.zero_le _,Nat.le_refl _,by omega,rfl,hI⟩
  case round =>
    obtain⟨lo,hi,q,rfl,rfl,hlh,hin,hg,rfl,hb⟩:=hrel
    by_cases hlt:lo<hi
    · have cm:w.cell? ⟨b,off+(lo+hi)/2,none⟩=some (.string (Sx ((lo+hi)/2))):=hc _ (by omega)
      clear hc
      obtain⟨g',rfl⟩:∃ g',gk=g'+1:=⟨gk-1,by omega⟩
      simp only[Lib.bsGo,hlt,if_true] at hb
      obtain⟨y,hy⟩:∃ y,Sx ((lo+hi)/2)=y:=⟨_,rfl⟩
      rw[hy] at cm
      simp only[hy] at hb
      cases hyx:Op.bytesLess y.toList x.toList<;>simp only[hyx,if_true,Bool.false_eq_true,if_false] at hb
      · go_wp2_with (first|(go_at_call 139;refine (cmp_Less_s _ _ _).mono ?_;rintro e w' ⟨rfl,rfl⟩)|(go_at_call 140;refine (sl_isNaN_s _ _).mono ?_;rintro e w' ⟨rfl,rfl⟩))
        go_roundg ((lo+hi)/2-lo)
        case measure=>omega
        case rel=>exact⟨lo,(lo+hi)/2,_,rfl,by rw[show ((lo:Int)+(hi:Int))/2=(((lo+hi)/2:Nat):Int) by omega],by omega,by omega,Nat.le_refl _,rfl,by rw[← hb];exact Lib.bsGo_fuel _ _ _ _ _ (Nat.le_refl _) (by omega)⟩
      · go_wp2_with (first|(go_at_call 139;refine (cmp_Less_s _ _ _).mono ?_;rintro e w' ⟨rfl,rfl⟩)|(go_at_call 140;refine (sl_isNaN_s _ _).mono ?_;rintro e w' ⟨rfl,rfl⟩))
        go_roundg (hi-((lo+hi)/2+1))
        case measure=>omega
        case rel=>exact⟨(lo+hi)/2+1,hi,_,by rw[show ((lo:Int)+(hi:Int))/2+1=(((lo+hi)/2+1:Nat):Int) by omega],rfl,by omega,hin,Nat.le_refl _,rfl,by rw[← hb];exact Lib.bsGo_fuel _ _ _ _ _ (Nat.le_refl _) (by omega)⟩
    · have : hi=lo:=by omega
      subst this
      have hIe:I=hi:=by
        rw[← hb]
        cases gk<;>simp[Lib.bsGo]
      by_cases hn:hi<n
      · have cl:w.cell? ⟨b,off+hi,none⟩=some (.string (Sx hi)):=hc _ hn
        clear hc hb hI
        obtain⟨y,hy⟩:∃ y,Sx hi=y:=⟨_,rfl⟩
        rw[hy] at cl
        by_cases hyx:y=x
        · go_wp2_with (first|(go_at_call 139;refine (cmp_Less_s _ _ _).mono ?_;rintro e w' ⟨rfl,rfl⟩)|(go_at_call 140;refine (sl_isNaN_s _ _).mono ?_;rintro e w' ⟨rfl,rfl⟩))
          go_ret2
          refine⟨?_,_,rfl⟩
          try rw[hIe]
          rw[hy,decide_eq_true (show hi<n∧y=x from ⟨hn,hyx⟩)]
          first|rfl|simp[*]
        · have hne:(y.toList==x.toList)=false:=by
            rw[beq_eq_false_iff_ne]
            intro h
            apply hyx
            rw[Lib.toList_data,Lib.toList_data] at h
            cases y with
            |mk yd=>cases x with
              |mk xd=>exact congrArg ByteArray.mk (Array.toList_inj.1 h)
          go_wp2_with (first|(go_at_call 139;refine (cmp_Less_s _ _ _).mono ?_;rintro e w' ⟨rfl,rfl⟩)|(go_at_call 140;refine (sl_isNaN_s _ _).mono ?_;rintro e w' ⟨rfl,rfl⟩))
          all_goals
            (go_ret2
             refine⟨?_,_,rfl⟩
             try rw[hIe]
             rw[hy,decide_eq_false (show ¬ (hi<n∧y=x) from fun h=>hyx h.2)]
             first|rfl|simp[*])
      · clear hc hb hI
        go_wp2_with (first|(go_at_call 139;refine (cmp_Less_s _ _ _).mono ?_;rintro e w' ⟨rfl,rfl⟩)|(go_at_call 140;refine (sl_isNaN_s _ _).mono ?_;rintro e w' ⟨rfl,rfl⟩))
        go_ret2
        refine⟨?_,_,rfl⟩
        try rw[hIe]
        rw[decide_eq_false (show ¬ (hi<n∧Sx hi=x) from fun h=>hn h.1)]
        first|rfl|simp[*]
end Go.Proofs.YthjmjoioagocdaaGreatDoor.TS
set_option maxRecDepth 1000000
namespace Go.Proofs.YthjmjoioagocdaaGreatDoor.TS
open Go.RowKit Go.Lib
@[go_sem] theorem binOp_string_gtr_my (t:TypeId)(a b:ByteArray):binOp .gtr t (.string a) (.string b)=pure (.bool !(Op.bytesLess a.toList b.toList||a.toList==b.toList)):=by simp[binOp,Op.stringOp]
set_option maxHeartbeats 2000000 in
theorem kid1_c (B C nb no blk off n c i:Nat) (x y:ByteArray) (W:World) (hi:i<n)
  (h1:W.cell? ⟨B,0,none⟩=some (.pointer (some ⟨nb,no,none⟩))) (h2:W.cell? ⟨nb,no,none⟩=some (.slice (some ⟨blk,off,none⟩) n c)) (h3:W.cell? ⟨C,0,none⟩=some (.string x)) (h4:W.cell? ⟨blk,off+i,none⟩=some (.string y)) :
  Calls Tryz.prog 129 #[.int .i64 i,.pointer (some ⟨B,0,none⟩),.pointer (some ⟨C,0,none⟩)] W fun e w'=>e=.returned (.bool (!(Op.bytesLess y.toList x.toList||y.toList==x.toList)))∧∃ q,w'=W.drewN q:=by
 have mixed:=Go.Proofs.YthjmjoioagocdaaGreatDoor.mixed
 have hiz:(i:Int)<(n:Int):=by omega
 go_enter Tryz.func129,Tryz.ntmps129
 go_wp2
 go_region_o
 all_goals go_wp2
 all_goals go_ret
 all_goals exact⟨by first|rfl|simp,1,rfl⟩
set_option maxHeartbeats 4000000 in
theorem search_c (B C n:Nat) (p:Nat→Bool) (w:World) (hsz:n<4611686018427387904)
  (hf:∀ (m i:Nat),i<n→Calls Tryz.prog 129 #[.int .i64 i,.pointer (some ⟨B,0,none⟩),.pointer (some ⟨C,0,none⟩)] (w.drewN m) fun e w'=>e=.returned (.bool (!p i))∧∃ q,w'=(w.drewN m).drewN q) :
  Calls Tryz.prog 128 #[.int .i64 n,.func (.func 129) #[] #[.pointer (some ⟨B,0,none⟩),.pointer (some ⟨C,0,none⟩)]] w fun e w'=>e=.returned (.int .i64 (Lib.bsGo p n 0 n:Nat))∧∃ q,w'=w.drewN q:=by
 have mixed:=Go.Proofs.YthjmjoioagocdaaGreatDoor.mixed
 have HF:Aside _:=hf
 clear hf
 obtain⟨I,hI⟩:∃ I,Lib.bsGo p n 0 n=I:=⟨_,rfl⟩
 rw[hI]
 go_enter Tryz.func128,Tryz.ntmps128
 go_wp2
 go_loopg [5,6] n (fun g s5 s6 wr=>∃ lo hi q:Nat,s5=.int .i64 lo∧s6=.int .i64 hi∧lo≤hi∧hi≤n∧hi-lo≤g∧wr=w.drewN q∧Lib.bsGo p g lo hi=I)
 case atStart=>exact⟨0,n,0,rfl,rfl,Nat.zero_le _,Nat.le_refl _,by omega,rfl,hI⟩
 case round =>
  obtain⟨lo,hi,q,rfl,rfl,hlh,hin,hg,rfl,hb⟩:=hrel
  by_cases hlt:lo<hi
  ·have hc:=HF.out q ((lo+hi)/2) (by omega)
   rw[show (((lo+hi)/2:Nat):Int)=((lo:Int)+(hi:Int))/2 by omega] at hc
   obtain⟨g',rfl⟩:∃ g',gk=g'+1:=⟨gk-1,by omega⟩
   simp only[Lib.bsGo,hlt,if_true] at hb
   cases hp:p ((lo+hi)/2)<;>rw[hp] at hc<;>simp only[hp,if_true,Bool.false_eq_true,if_false] at hb
   ·clear hp
    go_wp2_with (go_at_call 129;refine hc.mono ?_;rintro e w' ⟨rfl,nq,rfl⟩)
    go_roundg ((lo+hi)/2-lo)
    case measure=>omega
    case rel=>exact⟨lo,(lo+hi)/2,q+nq,rfl,by rw[show ((lo:Int)+(hi:Int))/2=(((lo+hi)/2:Nat):Int) by omega],by omega,by omega,Nat.le_refl _,rfl,by rw[← hb];exact Lib.bsGo_fuel _ _ _ _ _ (Nat.le_refl _) (by omega)⟩
   ·clear hp
    go_wp2_with (go_at_call 129;refine hc.mono ?_;rintro e w' ⟨rfl,nq,rfl⟩)
    go_roundg (hi-((lo+hi)/2+1))
    case measure=>omega
    case rel=>exact⟨(lo+hi)/2+1,hi,q+nq,by rw[show ((lo:Int)+(hi:Int))/2+1=(((lo+hi)/2+1:Nat):Int) by omega],rfl,by omega,hin,Nat.le_refl _,rfl,by rw[← hb];exact Lib.bsGo_fuel _ _ _ _ _ (Nat.le_refl _) (by omega)⟩
  ·obtain rfl:hi=lo:=by omega
   have hIe:I=hi:=by
    rw[← hb]
    cases gk<;>simp[Lib.bsGo]
   subst hIe
   go_wp2
   go_ret
   exact⟨rfl,q,rfl⟩
end Go.Proofs.YthjmjoioagocdaaGreatDoor.TS
set_option maxRecDepth 1000000
namespace Go.Proofs.YthjmjoioagocdaaGreatDoor.TS
open Go.RowKit Go.Lib
theorem bsGo_le (p:Nat→Bool):∀ (f lo hi:Nat),lo≤hi→Lib.bsGo p f lo hi≤hi
 |0,lo,hi,h=>h
 |f+1,lo,hi,h=>by
  simp only[Lib.bsGo]
  split
  ·split
   ·exact bsGo_le p f _ _ (by omega)
   ·exact Nat.le_trans (bsGo_le p f _ _ (by omega)) (by omega)
  ·exact h
set_option maxHeartbeats 4000000 in
theorem kid_c (nb no blk off n c:Nat) (Sx:Nat→ByteArray) (x:ByteArray) (w:World) (hsz:n<4611686018427387904)
  (h2:w.cell? ⟨nb,no,none⟩=some (.slice (some ⟨blk,off,none⟩) n c)) (h4:∀ i,i<n→w.cell? ⟨blk,off+i,none⟩=some (.string (Sx i))) (I:Nat) (hI:Lib.bsGo (fun t=>Op.bytesLess (Sx t).toList x.toList||(Sx t).toList==x.toList) n 0 n=I) :
  Calls Tryz.prog 103 #[.pointer (some ⟨nb,no,none⟩),.string x] w fun e w'=>e=.returned (.int .i64 ((I-1:Nat):Int))∧∃ q,w'=((w.alloc (.cells #[.pointer (some ⟨nb,no,none⟩)] 125)).alloc (.cells #[.string x] 9)).drewN q:=by
 have mixed:=Go.Proofs.YthjmjoioagocdaaGreatDoor.mixed
 obtain⟨W1,hW1⟩:∃ W1,W1=w.alloc (.cells #[.pointer (some ⟨nb,no,none⟩)] 125):=⟨_,rfl⟩
 obtain⟨W2,hW2⟩:∃ W2,W2=W1.alloc (.cells #[.string x] 9):=⟨_,rfl⟩
 have z1:W1.heap.size=w.heap.size+1:=by rw[hW1];show (w.heap.push _).size=_;rw[Array.size_push]
 have keep:∀ a v,w.cell? a=some v→W2.cell? a=some v:=fun a v h=>by rw[hW2,hW1];exact Lib.cell?_alloc_some _ (Lib.cell?_alloc_some _ h)
 have k1:W2.cell? ⟨w.heap.size,0,none⟩=some (.pointer (some ⟨nb,no,none⟩)):=by
  rw[hW2]
  refine Lib.cell?_alloc_some _ ?_
  rw[hW1,World.cell?_alloc_at _ _ _ _ rfl];rfl
 have k2:W2.cell? ⟨w.heap.size+1,0,none⟩=some (.string x):=by
  rw[hW2,World.cell?_alloc_at _ _ _ _ z1.symm];rfl
 have hk:∀ (m i:Nat),i<n→Calls Tryz.prog 129 #[.int .i64 i,.pointer (some ⟨w.heap.size,0,none⟩),.pointer (some ⟨w.heap.size+1,0,none⟩)] (W2.drewN m) fun e w'=>e=.returned (.bool (!(fun t=>Op.bytesLess (Sx t).toList x.toList||(Sx t).toList==x.toList) i))∧∃ q,w'=(W2.drewN m).drewN q:=fun m i hi =>
  kid1_c _ _ nb no blk off n c i x (Sx i) (W2.drewN m) hi k1 (keep _ _ h2) k2 (keep _ _ (h4 i hi))
 have hs:=search_c w.heap.size (w.heap.size+1) n _ W2 hsz hk
 rw[hI] at hs
 have hIn:I≤n:=by rw[← hI];exact bsGo_le _ _ _ _ (Nat.zero_le _)
 have c2:=keep _ _ h2
 have f1:IntKind.i64.wrap ((I:Int)-1)=(I:Int)-1:=by rw[IntKind.wrap_i64];omega
 have f2:max ((I:Int)-1) 0=((I-1:Nat):Int):=by omega
 clear hk keep hI h4
 subst hW2
 subst hW1
 go_enter Tryz.func103,Tryz.ntmps103
 go_wp2_with (go_at_call 128;refine hs.mono ?_;rintro e w' ⟨rfl,nq,rfl⟩)
 all_goals go_ret
 all_goals exact⟨by simp[f2],_,rfl⟩
end Go.Proofs.YthjmjoioagocdaaGreatDoor.TS
set_option maxRecDepth 1000000
namespace Go.Proofs.YthjmjoioagocdaaGreatDoor.TS
open Go.RowKit Go.Lib
def strOf:PV→List UInt8
 | .str s=>s
 |_=>[]
def isStr:PV→Bool
 | .str _=>true
 |_=>false
def strAt (keys:List PV)(t:Nat):List UInt8:=strOf (keys.getD t .undef)
def placeI (keys:List PV)(x:List UInt8):Nat:=Lib.bsGo (fun t=>Op.bytesLess (strAt keys t) x) keys.length 0 keys.length
def kidI (keys:List PV)(x:List UInt8):Nat:=Lib.bsGo (fun t=>Op.bytesLess (strAt keys t) x||strAt keys t==x) keys.length 0 keys.length
theorem str_cells {M:Mem}{keys:List PV}{cs:List Value}(hr:RelL M keys cs)(hs:keys.all isStr=true){t:Nat}(ht:t<keys.length):cs[t]? = some (.string ⟨(strAt keys t).toArray⟩):=by
 obtain⟨u,h1,_,h3⟩:=hr.get (List.getElem?_eq_getElem ht)
 rw[h1]
 have:=List.all_eq_true.1 hs _ (List.getElem_mem ht)
 unfold strAt
 rw[List.getD_eq_getElem?_getD,List.getElem?_eq_getElem ht,Option.getD_some]
 revert h3 this
 cases keys[t]<;>intro h3 h4<;>simp only[isStr,RelD,strOf,Bool.false_eq_true] at h3 h4 ⊢
 rw[h3]
theorem tl_mk (s:List UInt8):(ByteArray.mk s.toArray).toList=s:=by rw[Lib.toList_data]
theorem below_drewN (w:World)(q B:Nat):Below B w (w.drewN q):=⟨rfl,rfl,rfl,Nat.le_refl _,fun _ _=>rfl⟩
def p_bs:PFn:=⟨fun xs k=>match xs with|[.sl _ 1 n keys,.str x]=>bif keys.all isStr&&(decide (keys.length=n)&&(decide (0<n)&&decide (n≤1000000))) then k (.tuple [.int .i64 (placeI keys x:Nat),.bool (decide (placeI keys x<n)&&strAt keys (placeI keys x)==x)]) else none|_=>none,false⟩
theorem ok_bs {NG:Nat}{W:World→Prop}:FOK NG W 113 p_bs:=by
 refine fok_calls Tryz.func113 (by kernel_rfl) (by decide) ?_ rfl ?_
 ·intro R xs k
  simp only[p_bs]
  split
  ·rename_i n keys x
   rcases (keys.all isStr&&(decide (keys.length=n)&&(decide (0<n)&&decide (n≤1000000)))) with _|_<;>rfl
  ·rfl
 ·intro xs r M vs hW h hr
  simp only[p_bs] at h
  split at h
  ·rename_i nl n keys x
   rcases hb:(keys.all isStr&&(decide (keys.length=n)&&(decide (0<n)&&decide (n≤1000000)))) with _|_<;>rw[hb] at h
   ·cases h
   simp only[cond_true,Option.some.injEq] at h
   subst h
   simp only[Bool.and_eq_true,decide_eq_true_eq] at hb
   obtain⟨b1,rfl,b3,b4⟩:=hb
   obtain⟨v,u,rfl,g1,g2⟩:=relT2 hr
   simp only[RelD] at g1 g2
   subst g2
   obtain⟨A,c,cs,rfl,j1,j2,j3,j4,j5,j6,j7⟩:=g1
   have hl:=j6.length
   obtain rfl|⟨b,o,rfl,hat⟩:=j7
   ·simp only[List.length_nil] at hl;omega
   have key:=bsearch_s b o keys.length c (fun t=>⟨(strAt keys t).toArray⟩) ⟨x.toArray⟩ M.w (by omega) (fun j hj=>(hat j _ (str_cells j6 b1 hj)).1)
   simp only[tl_mk] at key
   refine key.mono ?_
   rintro e w' ⟨rfl,q,rfl⟩
   refine⟨_,rfl,below_drewN _ _ _,fun U' hm=>?_⟩
   simp only[RelD,RelT]
   refine⟨[_,_],rfl,_,_,rfl,rfl,_,_,rfl,?_,rfl⟩
   show Value.bool _=Value.bool _
   congr 1
   show decide (placeI keys x<keys.length∧(⟨(strAt keys (placeI keys x)).toArray⟩:ByteArray)=⟨x.toArray⟩)=_
   rw[Bool.eq_iff_iff]
   simp
  ·cases h
def p_kid:PFn:=⟨fun xs k=>match xs with|[.eptr (.sl _ 1 n keys::_),.str x]=>bif keys.all isStr&&(decide (keys.length=n)&&(decide (0<n)&&decide (n≤1000000))) then k (.int .i64 ((kidI keys x-1:Nat):Int)) else none|_=>none,false⟩
theorem ok_kid {NG:Nat}{W:World→Prop}:FOK NG W 103 p_kid:=by
 refine fok_calls Tryz.func103 (by kernel_rfl) (by decide) ?_ rfl ?_
 ·intro R xs k
  simp only[p_kid]
  split
  ·rename_i n keys _ x
   rcases (keys.all isStr&&(decide (keys.length=n)&&(decide (0<n)&&decide (n≤1000000)))) with _|_<;>rfl
  ·rfl
 ·intro xs r M vs hW h hr
  simp only[p_kid] at h
  split at h
  ·rename_i nl n keys rest x
   rcases hb:(keys.all isStr&&(decide (keys.length=n)&&(decide (0<n)&&decide (n≤1000000)))) with _|_<;>rw[hb] at h
   ·cases h
   simp only[cond_true,Option.some.injEq] at h
   subst h
   simp only[Bool.and_eq_true,decide_eq_true_eq] at hb
   obtain⟨b1,rfl,b3,b4⟩:=hb
   obtain⟨v,u,rfl,g1,g2⟩:=relT2 hr
   simp only[RelD] at g1 g2
   subst g2
   obtain⟨nb,no,ws,rfl,g3,hnode⟩:=g1
   simp only[RelL,RelD] at g3
   obtain⟨u0,us,rfl,_,⟨A,c,cs,rfl,j1,j2,j3,j4,j5,j6,j7⟩,_⟩:=g3
   have hl:=j6.length
   obtain rfl|⟨b,o,rfl,hat⟩:=j7
   ·simp only[List.length_nil] at hl;omega
   have h0:=(hnode 0 _ rfl).1
   have key:=kid_c nb no b o keys.length c (fun t=>⟨(strAt keys t).toArray⟩) ⟨x.toArray⟩ M.w (by omega) h0 (fun j hj=>(hat j _ (str_cells j6 b1 hj)).1) (kidI keys x) (by simp only[tl_mk];rfl)
   refine key.mono ?_
   rintro e w' ⟨rfl,q,rfl⟩
   refine⟨_,rfl,((((Below.refl _ M.w).alloc (Nat.le_refl _) _).alloc (by show _≤(M.w.heap.push _).size;rw[Array.size_push];omega) _).trans (below_drewN _ _ _)),fun U' hm=>?_⟩
   simp only[RelD]
  ·cases h
end Go.Proofs.YthjmjoioagocdaaGreatDoor.TS
end
section
set_option maxRecDepth 100000
namespace Go.Proofs.YthjmjoioagocdaaGreatDoor.TS
open Go.RowKit Go.Lib
theorem ownsRow_bsl {w:World}{base n:Nat}{e:TypeId}{v:Value}{xs:List Value}(h:w.ownsRow base e 1 v n xs)(h0:v≠.slice none 0 0):∃ b c,v=.slice (some ⟨b,0,none⟩) n c∧base≤b∧RowP w b e xs∧n≤c∧c≤maxLen∧Sized w b (c * 1):=by
 obtain⟨hl,⟨rfl,_⟩|⟨g,cap,cur,rfl,h1,h2,h3,h4,h5,h6⟩⟩:=h
 ·exact (h0 rfl).elim
 ·refine⟨g,cap,rfl,h1,⟨cur.toList.drop (n * 1),?_⟩,h3,h4,cur,e,h2,by omega⟩
  rw[h2,← h6,List.take_append_drop]
set_option maxHeartbeats 4000000 in
theorem clone_s (b off n c:Nat) (cs:List Value) (w:World) (h0:0<n) (hn:n≤1000000) (hl:cs.length=n) (h1:∀ u∈cs,u.oneCell'=true) (hc:∀ j u,cs[j]? = some u→w.cell? ⟨b,off+j,none⟩=some u) :
  Calls Tryz.prog 100 #[.slice (some ⟨b,off,none⟩) n c] w fun e w'=>∃ v',e=.returned v'∧w'.ownsRow w.heap.size 9 1 v' n cs∧v'≠.slice none 0 0∧Below w.heap.size w w':=by
 have q22:∀ (w:World) (a:Option Addr) (n c n' c':Nat),(binOp .eql 133 (.slice a n c) (.slice none n' c')).run Tryz.prog w=.ok (.bool a.isNone) w:=fun w a n c n' c'=>Lib.run_eql_slice_nil w _ _ a n c n' c' Tryz.underlying133
 obtain⟨i0,hi,hz1,hz2,z,hz,hzs⟩:∃ i0,Tryz.prog.info? 9=some i0∧i0.size=1∧i0.bytes≤100∧∃ z,i0.zero=some z∧z.cells.size=1:=⟨Tryz.t9,by kernel_rfl,by kernel_rfl,by decide,_,rfl,by decide⟩
 have hbig:n * i0.bytes≤140737488355328:=Nat.le_trans (Nat.mul_le_mul hn hz2) (by decide)
 have A:Aside (∀ j u,cs[j]? = some u→w.cell? ⟨b,off+j,none⟩=some u):=hc
 clear hc
 go_enter Tryz.func100,Tryz.ntmps100
 go_wp2_with (at_builtin;refine wpList_append_own _ rfl _ _ 133 rfl w.heap.size 9 i0 z 1 i0.bytes Tryz.underlying133 hi hz hz1 rfl hzs (by decide) _ _ _ rfl (World.ownsRow_made w #[] 0 (Nat.le_refl _) (Nat.zero_le _) rfl) ⟨b,off,none⟩ n c cs rfl ?qc1 ?qc2 ?qc3 ?qc4 ?qc5 ?qc6 ?_)
 case qc1=>omega
 case qc2 =>
  intro j u hj
  rw[Addr.add_lit]
  exact Lib.cell?_alloc_some _ (A.out j u hj)
 case qc3=>exact h1
 case qc4=>unfold maxLen;omega
 case qc5=>simpa using hbig
 case qc6=>simp
 intro v' w1 hown hgrow hnil
 go_wp2
 go_ret
 refine⟨v',rfl,by simpa using hown,?_,?_⟩
 ·exact hnil
 ·exact ((Below.refl _ w).alloc (Nat.le_refl _) _).grown hgrow (by simp) (by intro k hk;simp[Value.ownBlock] at hk;omega)
set_option maxHeartbeats 4000000 in
theorem clone_i (b off n c:Nat) (cs:List Value) (w:World) (h0:0<n) (hn:n≤1000000) (hl:cs.length=n) (h1:∀ u∈cs,u.oneCell'=true) (hc:∀ j u,cs[j]? = some u→w.cell? ⟨b,off+j,none⟩=some u) :
  Calls Tryz.prog 100 #[.slice (some ⟨b,off,none⟩) n c] w fun e w'=>∃ v',e=.returned v'∧w'.ownsRow w.heap.size 9 1 v' n cs∧v'≠.slice none 0 0∧Below w.heap.size w w':=by
 have q22:∀ (w:World) (a:Option Addr) (n c n' c':Nat),(binOp .eql 133 (.slice a n c) (.slice none n' c')).run Tryz.prog w=.ok (.bool a.isNone) w:=fun w a n c n' c'=>Lib.run_eql_slice_nil w _ _ a n c n' c' Tryz.underlying133
 obtain⟨i0,hi,hz1,hz2,z,hz,hzs⟩:∃ i0,Tryz.prog.info? 9=some i0∧i0.size=1∧i0.bytes≤100∧∃ z,i0.zero=some z∧z.cells.size=1:=⟨Tryz.t9,by kernel_rfl,by kernel_rfl,by decide,_,rfl,by decide⟩
 have hbig:n * i0.bytes≤140737488355328:=Nat.le_trans (Nat.mul_le_mul hn hz2) (by decide)
 have A:Aside (∀ j u,cs[j]? = some u→w.cell? ⟨b,off+j,none⟩=some u):=hc
 clear hc
 go_enter Tryz.func100,Tryz.ntmps100
 go_wp2_with (at_builtin;refine wpList_append_own _ rfl _ _ 133 rfl w.heap.size 9 i0 z 1 i0.bytes Tryz.underlying133 hi hz hz1 rfl hzs (by decide) _ _ _ rfl (World.ownsRow_made w #[] 0 (Nat.le_refl _) (Nat.zero_le _) rfl) ⟨b,off,none⟩ n c cs rfl ?qc1 ?qc2 ?qc3 ?qc4 ?qc5 ?qc6 ?_)
 case qc1=>omega
 case qc2 =>
  intro j u hj
  rw[Addr.add_lit]
  exact Lib.cell?_alloc_some _ (A.out j u hj)
 case qc3=>exact h1
 case qc4=>unfold maxLen;omega
 case qc5=>simpa using hbig
 case qc6=>simp
 intro v' w1 hown hgrow hnil
 go_wp2
 go_ret
 refine⟨v',rfl,by simpa using hown,?_,?_⟩
 ·exact hnil
 ·exact ((Below.refl _ w).alloc (Nat.le_refl _) _).grown hgrow (by simp) (by intro k hk;simp[Value.ownBlock] at hk;omega)
def p_clone_s:NFn:=⟨fun xs kk=>match xs with|[.sl _ 1 n cells]=>bif decide (0<n)&&decide (n≤1000000) then kk 1 n cells else none|_=>none⟩
def p_clone_i:NFn:=⟨fun xs kk=>match xs with|[.sl _ 1 n cells]=>bif decide (0<n)&&decide (n≤1000000) then kk 1 n cells else none|_=>none⟩
theorem nok_clone_s {NG:Nat}{W:World→Prop}:NOK NG W 100 p_clone_s where
 nat:=by
  intro R xs kk
  simp only[p_clone_s]
  split
  ·rcases (decide (0<_)&&decide (_≤1000000)) with _|_<;>rfl
  ·rfl
 call:=by
  intro M xs vs sz n cells hW hng hG hr h
  simp only[p_clone_s] at h
  split at h
  ·rename_i nl n' cells'
   rcases hb:(decide (0<n')&&decide (n'≤1000000)) with _|_<;>rw[hb] at h
   ·cases h
   simp only[cond_true,Option.some.injEq,Prod.mk.injEq] at h
   obtain⟨rfl,rfl,rfl⟩:=h
   simp only[Bool.and_eq_true,decide_eq_true_eq] at hb
   obtain⟨v,rfl,hv⟩:=relT1 hr
   simp only[RelD] at hv
   obtain⟨A,c,cs,rfl,g1,g2,g3,g4,g5,g6,g7⟩:=hv
   have hcl:cs.length=n':=by rw[← g6.length,g5];omega
   obtain rfl|⟨b,o,rfl,hat⟩:=g7
   ·simp at hcl;omega
   refine .inr ⟨?_,(clone_s b o n' c cs M.w hb.1 hb.2 hcl g6.one fun j u hj=>(hat j u hj).1).mono ?_⟩
   ·show (callFunc _ _).run Tryz.prog M.w=_
    simp[callFunc,Tryz.func100]
    rw[if_neg (by decide),if_neg (by decide)]
   ·rintro e w' ⟨v',rfl,k1,k2,k3⟩
    obtain⟨b',c',rfl,q1,q2,q3,q4,q5⟩:=ownsRow_bsl k1 k2
    have hm:Move M ⟨w',fun x=>if x<M.w.heap.size then M.U x else 0,M.y⟩ none:=Move.mk0 k3 fun x hx=>by simp[hx]
    exact⟨_,rfl,_,hm,b',c',_,cs,rfl,q1,q2,g6.mono hm.le,by simp;omega,q3,q4,q5⟩
  ·cases h
theorem nok_clone_i {NG:Nat}{W:World→Prop}:NOK NG W 100 p_clone_i where
 nat:=by
  intro R xs kk
  simp only[p_clone_i]
  split
  ·rcases (decide (0<_)&&decide (_≤1000000)) with _|_<;>rfl
  ·rfl
 call:=by
  intro M xs vs sz n cells hW hng hG hr h
  simp only[p_clone_i] at h
  split at h
  ·rename_i nl n' cells'
   rcases hb:(decide (0<n')&&decide (n'≤1000000)) with _|_<;>rw[hb] at h
   ·cases h
   simp only[cond_true,Option.some.injEq,Prod.mk.injEq] at h
   obtain⟨rfl,rfl,rfl⟩:=h
   simp only[Bool.and_eq_true,decide_eq_true_eq] at hb
   obtain⟨v,rfl,hv⟩:=relT1 hr
   simp only[RelD] at hv
   obtain⟨A,c,cs,rfl,g1,g2,g3,g4,g5,g6,g7⟩:=hv
   have hcl:cs.length=n':=by rw[← g6.length,g5];omega
   obtain rfl|⟨b,o,rfl,hat⟩:=g7
   ·simp at hcl;omega
   refine .inr ⟨?_,(clone_i b o n' c cs M.w hb.1 hb.2 hcl g6.one fun j u hj=>(hat j u hj).1).mono ?_⟩
   ·show (callFunc _ _).run Tryz.prog M.w=_
    simp[callFunc,Tryz.func100]
    rw[if_neg (by decide),if_neg (by decide)]
   ·rintro e w' ⟨v',rfl,k1,k2,k3⟩
    obtain⟨b',c',rfl,q1,q2,q3,q4,q5⟩:=ownsRow_bsl k1 k2
    have hm:Move M ⟨w',fun x=>if x<M.w.heap.size then M.U x else 0,M.y⟩ none:=Move.mk0 k3 fun x hx=>by simp[hx]
    exact⟨_,rfl,_,hm,b',c',_,cs,rfl,q1,q2,g6.mono hm.le,by simp;omega,q3,q4,q5⟩
  ·cases h
set_option maxHeartbeats 4000000 in
theorem clone_n (b off n c:Nat) (cs:List Value) (w:World) (h0:0<n) (hn:n≤1000000) (hl:cs.length=n) (h1:∀ u∈cs,u.oneCell'=true) (hc:∀ j u,cs[j]? = some u→w.cell? ⟨b,off+j,none⟩=some u) :
  Calls Tryz.prog 105 #[.slice (some ⟨b,off,none⟩) n c] w fun e w'=>∃ v',e=.returned v'∧w'.ownsRow w.heap.size 125 1 v' n cs∧v'≠.slice none 0 0∧Below w.heap.size w w':=by
 have q22:∀ (w:World) (a:Option Addr) (n c n' c':Nat),(binOp .eql 134 (.slice a n c) (.slice none n' c')).run Tryz.prog w=.ok (.bool a.isNone) w:=fun w a n c n' c'=>Lib.run_eql_slice_nil w _ _ a n c n' c' Tryz.underlying134
 obtain⟨i0,hi,hz1,hz2,z,hz,hzs⟩:∃ i0,Tryz.prog.info? 125=some i0∧i0.size=1∧i0.bytes≤100∧∃ z,i0.zero=some z∧z.cells.size=1:=⟨Tryz.t125,by kernel_rfl,by kernel_rfl,by decide,_,rfl,by decide⟩
 have hbig:n * i0.bytes≤140737488355328:=Nat.le_trans (Nat.mul_le_mul hn hz2) (by decide)
 have A:Aside (∀ j u,cs[j]? = some u→w.cell? ⟨b,off+j,none⟩=some u):=hc
 clear hc
 go_enter Tryz.func105,Tryz.ntmps105
 go_wp2_with (at_builtin;refine wpList_append_own _ rfl _ _ 134 rfl w.heap.size 125 i0 z 1 i0.bytes Tryz.underlying134 hi hz hz1 rfl hzs (by decide) _ _ _ rfl (World.ownsRow_made w #[] 0 (Nat.le_refl _) (Nat.zero_le _) rfl) ⟨b,off,none⟩ n c cs rfl ?qc1 ?qc2 ?qc3 ?qc4 ?qc5 ?qc6 ?_)
 case qc1=>omega
 case qc2 =>
  intro j u hj
  rw[Addr.add_lit]
  exact Lib.cell?_alloc_some _ (A.out j u hj)
 case qc3=>exact h1
 case qc4=>unfold maxLen;omega
 case qc5=>simpa using hbig
 case qc6=>simp
 intro v' w1 hown hgrow hnil
 go_wp2
 go_ret
 refine⟨v',rfl,by simpa using hown,?_,?_⟩
 ·exact hnil
 ·exact ((Below.refl _ w).alloc (Nat.le_refl _) _).grown hgrow (by simp) (by intro k hk;simp[Value.ownBlock] at hk;omega)
def p_clone_n:NFn:=⟨fun xs kk=>match xs with|[.sl _ 1 n cells]=>bif decide (0<n)&&decide (n≤1000000) then kk 1 n cells else none|_=>none⟩
theorem nok_clone_n {NG:Nat}{W:World→Prop}:NOK NG W 105 p_clone_n where
 nat:=by
  intro R xs kk
  simp only[p_clone_n]
  split
  ·rcases (decide (0<_)&&decide (_≤1000000)) with _|_<;>rfl
  ·rfl
 call:=by
  intro M xs vs sz n cells hW hng hG hr h
  simp only[p_clone_n] at h
  split at h
  ·rename_i nl n' cells'
   rcases hb:(decide (0<n')&&decide (n'≤1000000)) with _|_<;>rw[hb] at h
   ·cases h
   simp only[cond_true,Option.some.injEq,Prod.mk.injEq] at h
   obtain⟨rfl,rfl,rfl⟩:=h
   simp only[Bool.and_eq_true,decide_eq_true_eq] at hb
   obtain⟨v,rfl,hv⟩:=relT1 hr
   simp only[RelD] at hv
   obtain⟨A,c,cs,rfl,g1,g2,g3,g4,g5,g6,g7⟩:=hv
   have hcl:cs.length=n':=by rw[← g6.length,g5];omega
   obtain rfl|⟨b,o,rfl,hat⟩:=g7
   ·simp at hcl;omega
   refine .inr ⟨?_,(clone_n b o n' c cs M.w hb.1 hb.2 hcl g6.one fun j u hj=>(hat j u hj).1).mono ?_⟩
   ·show (callFunc _ _).run Tryz.prog M.w=_
    simp[callFunc,Tryz.func105]
    rw[if_neg (by decide),if_neg (by decide)]
   ·rintro e w' ⟨v',rfl,k1,k2,k3⟩
    obtain⟨b',c',rfl,q1,q2,q3,q4,q5⟩:=ownsRow_bsl k1 k2
    have hm:Move M ⟨w',fun x=>if x<M.w.heap.size then M.U x else 0,M.y⟩ none:=Move.mk0 k3 fun x hx=>by simp[hx]
    exact⟨_,rfl,_,hm,b',c',_,cs,rfl,q1,q2,g6.mono hm.le,by simp;omega,q3,q4,q5⟩
  ·cases h
end Go.Proofs.YthjmjoioagocdaaGreatDoor.TS
end
section
set_option maxRecDepth 1000000
namespace Go.Proofs.YthjmjoioagocdaaGreatDoor.TS
open Go.RowKit Go.Lib
theorem run_overlaps_own {P:Program}(w:World)(tS tR e:TypeId)(ht:P.underlying tS=some (.slice e))(size:Nat)(hz:∀ w,(Go.sizeOf e).run P w=.ok size w)
  (a b:Addr) (la ca lb cb:Nat) (hne:a.block≠b.block) (tA tB:TypeId) (kA kB:Nat) (hsa:w.shape? a.block=some (tA,kA)) (hsb:w.shape? b.block=some (tB,kB)) (hkA:kA≠0) (hf:∀ o,w.frozen? ⟨b.block,o,none⟩=false) (hfb:w.frozen? b=false) :
  (Extern.SlicesOverlaps.overlaps #[tS,tS] #[tR] #[.slice (some a) la ca,.slice (some b) lb cb]).run P w=.ok (.bool false) w:=by
 have hnb:(a.block != b.block)=true:=by simpa using hne
 have hnb':(a.block==b.block)=false:=by simpa using hne
 change Sem.run P (α:=Value) (do
  let some t:=(#[tS,tS]:Array TypeId)[0]? | stuck "slices.overlaps: no parameter types"
  let .slice elem ← underlying t|stuck "slices.overlaps: slice type expected"
  let size ← sizeOf elem
  match (some a:Option Addr),(some b:Option Addr) with
  |some a,some b =>
   if la=0∨lb=0∨size=0 then pure (Value.bool false)
   else if a.block != b.block&&(← frozen a)&&(← frozen b) then unsupported .addressObserved
   else do
    if a.block != b.block then do
     noView a;noView b
     if ← mayBeOne a b then return Value.bool ((← choose (.extern "sameAddr.stringBytes" 2))==1)
    pure (Value.bool (a.block==b.block&&a.off<b.off+lb * size&&b.off<a.off+la * size))
  |_,_=>pure (Value.bool false)) w=_
 by_cases h0:la=0∨lb=0∨size=0
 ·simp[run_underlying ht,hz,h0]
 ·cases kA with
  |zero=>exact absurd rfl hkA
  |succ kA =>
   rcases h1:w.frozen? a with _|_<;>rcases h2:w.frozen? ⟨a.block,kA+1,none⟩ with _|_ <;>
   simp[run_underlying ht,hz,h0,hnb,hnb',frozen,noView,viewAt,mayBeOne,stringish,shape,Sem.run,hsa,hsb,hf,hfb,h1,h2]
theorem insert_room_row {w:World}{b:Nat}{e:TypeId}{arr vs:List Value}(hr:RowP w b e arr){c n i:Nat}(hs:Sized w b (c * 1))(hl:arr.length=n)(hi:i≤n)(hroom:n+vs.length≤c):RowP ((w.drew.setCells b (0+(i+vs.length)) (arr.drop i)).setCells b (0+i) vs) b e (arr.take i++vs++arr.drop i):=by
 have hU:Upd b w ((w.drew.setCells b (0+(i+vs.length)) (arr.drop i)).setCells b (0+i) vs):=((Upd.refl b w).drew.step _ _).step _ _
 have hS:∀ o,o<c→(w.cell? ⟨b,o,none⟩).isSome=true:=fun o ho=>sized_some hs (by omega)
 have hS':∀ o,o<c→((w.drew.setCells b (0+(i+vs.length)) (arr.drop i)).cell? ⟨b,o,none⟩).isSome=true:=fun o ho=>sized_some (((Upd.refl b w).drew.step (0+(i+vs.length)) (arr.drop i)).sized hs) (by omega)
 refine hU.rowP hr fun t u hu=>?_
 have hd:(arr.drop i).length=n-i:=by simp[hl]
 have htk:(arr.take i).length=i:=by simp;omega
 by_cases ht:t<i
 ·rw[World.cell?_setCells_out b _ _ _ _ (fun _ _=>.inl (by show t<_;omega)),World.cell?_setCells_out b _ _ _ _ (fun _ _=>.inl (by show t<_;omega))]
  rw[List.append_assoc,List.getElem?_append_left (by omega),List.getElem?_take,if_pos ht] at hu
  exact hr.cell hu
 ·by_cases ht2:t<i+vs.length
  ·obtain⟨q,rfl⟩:∃ q,t=i+q:=⟨t-i,by omega⟩
   rw[List.append_assoc,List.getElem?_append_right (by omega),htk,Nat.add_sub_cancel_left,List.getElem?_append_left (by omega)] at hu
   obtain⟨hq,hu⟩:=List.getElem?_eq_some_iff.1 hu
   have:=World.cell?_setCells_in b vs (0+i) _ (fun x hx=>hS' (0+i+x) (by omega)) q hq
   rw[show i+q=0+i+q by omega,this,hu]
  ·obtain⟨q,rfl⟩:∃ q,t=i+vs.length+q:=⟨t-i-vs.length,by omega⟩
   rw[List.getElem?_append_right (by simp;omega)] at hu
   simp only[List.length_append,htk,Nat.add_sub_cancel_left] at hu
   obtain⟨hq,hu⟩:=List.getElem?_eq_some_iff.1 hu
   rw[World.cell?_setCells_out b _ _ _ _ (fun _ _=>.inr (by show _≤i+vs.length+q;omega))]
   have:=World.cell?_setCells_in b (arr.drop i) (0+(i+vs.length)) w.drew (fun x hx=>hS (0+(i+vs.length)+x) (by omega)) q hq
   rw[show i+vs.length+q=0+(i+vs.length)+q by omega,this,hu]
theorem info_s:∃ i0,Tryz.prog.info? 9=some i0∧i0.zero=some (.string ByteArray.empty)∧i0.size=1∧i0.bytes≤100:=⟨Tryz.t9,by kernel_rfl,by kernel_rfl,by kernel_rfl,by decide⟩
set_option maxHeartbeats 4000000 in
theorem insert_shift_s (b off n c i vb voff m vc:Nat) (cs vs:List Value) (w:World) (hi:i<n) (hm:0<m) (hroom:n+m≤c) (hc63:c≤9223372036854775807) (hvb:vb≠b)
  (hcl:cs.length=n) (hvl:vs.length=m)
  (hcs:∀ j v,cs[j]? = some v→w.cell? ⟨b,off+j,none⟩=some v) (hsp:∀ j,j<n+m→(w.cell? ⟨b,off+j,none⟩).isSome=true) (hfz:∀ j,w.frozen? ⟨b,j,none⟩=false)
  (hvs:∀ j v,vs[j]? = some v→w.cell? ⟨vb,voff+j,none⟩=some v) (h1c:∀ v∈cs,v.oneCell'=true) (h1v:∀ v∈vs,v.oneCell'=true)
  (tA tB:TypeId) (kA kB:Nat) (hsa:w.shape? vb=some (tA,kA)) (hsb:w.shape? b=some (tB,kB)) (hkA:kA≠0) :
  Calls Tryz.prog 101 #[.slice (some ⟨b,off,none⟩) n c,.int .i64 i,.slice (some ⟨vb,voff,none⟩) m vc] w fun e w' =>
   e=.returned (.slice (some ⟨b,off,none⟩) (n+m) c)∧w'=(w.drew.setCells b (off+(i+m)) (cs.drop i)).setCells b (off+i) vs:=by
 have t24:=Tryz.underlying133
 have mixed:=Go.Proofs.YthjmjoioagocdaaGreatDoor.mixed
 obtain⟨i0,hi0,hz0,hzs,hzb⟩:=info_s
 have hz1:¬ ((m:Int)=0):=by omega
 have hz2:¬ ((i:Int)=(n:Int)):=by omega
 have hsz:(Tryz.prog.info? 9).map (·.size)=some 1:=by rw[hi0];simp[hzs]
 have hov:∀ lb cb,(callFunc 125 #[.slice (some ⟨vb,voff,none⟩) m vc,.slice (some ⟨b,off+(i+m),none⟩) lb cb]).run Tryz.prog w=.ok (.value (.bool false)) w:=fun lb cb=>by
  rw[run_callFunc_extern Tryz.func125 (by kernel_rfl) (by kernel_rfl) (by kernel_rfl) (e:=Extern.SlicesOverlaps.overlaps #[133,133] #[4]) (by kernel_rfl),
   run_overlaps_own w 133 4 9 t24 1 Tryz.sizeOf9 ⟨vb,voff,none⟩ ⟨b,off+(i+m),none⟩ m vc lb cb hvb tA tB kA kB hsa hsb hkA hfz (hfz _)]
  rfl
 have hdl:(cs.drop i).length=n-i:=by rw[List.length_drop,hcl]
 have hw1:IntKind.i64.wrap ((i:Int)+(m:Int))=(i:Int)+(m:Int):=by rw[IntKind.wrap_i64];omega
 have hb1:(0:Int)≤(i:Int)+(m:Int):=by omega
 have hin:i≤n:=by omega
 have htn:((i:Int)+(m:Int)).toNat=i+m:=by omega
 have hb2:¬ (c=i+m):=by omega
 have hb3:(i:Int)≤(n:Int)+(m:Int):=by omega
 have hb4:¬ (c=i):=by omega
 have hcp1:∀ ty dc sc,(Builtin.copy_ #[133,133] ty #[.slice (some ⟨b,off+(i+m),none⟩) (n+m-(i+m)) dc,.slice (some ⟨b,off+i,none⟩) (n+m-i) sc]).run Tryz.prog w.drew=.ok (goInt (cs.drop i).length) (w.drew.setCells b (off+(i+m)) (cs.drop i)):=fun ty dc sc =>
  run_copy_cells w.drew _ _ ty 9 b (off+(i+m)) (n+m-(i+m)) dc ⟨b,off+i,none⟩ (n+m-i) sc (cs.drop i) t24 hsz (by rw[hdl];simp only[Nat.min_def];split<;>omega)
   (fun j v hj=>by rw[Addr.add_lit,Nat.add_assoc];exact hcs (i+j) v (by rwa [List.getElem?_drop] at hj))
   (fun j hj=>by rw[Nat.add_assoc];exact hsp _ (by omega)) (fun j hj=>hfz _) (fun v hv=>h1c v (List.mem_of_mem_drop hv))
 obtain⟨W1,hW1⟩:∃ W1,W1=w.drew.setCells b (off+(i+m)) (cs.drop i):=⟨_,rfl⟩
 have hsp1:∀ k,k<n+m→(W1.cell? ⟨b,off+k,none⟩).isSome=true:=fun k hk=>by
  rw[hW1]
  exact Go.Proofs.isSome_setCells b _ _ _ (fun j hj=>by rw[Nat.add_assoc];exact hsp _ (by omega)) _ (hsp k hk)
 have hcp2:∀ (W:World),(∀ x,W.cell? x=W1.cell? x)→(∀ x,W.frozen? x=W1.frozen? x)→∀ ty dc,(Builtin.copy_ #[133,133] ty #[.slice (some ⟨b,off+i,none⟩) (n+m-i) dc,.slice (some ⟨vb,voff,none⟩) m vc]).run Tryz.prog W=.ok (goInt vs.length) (W.setCells b (off+i) vs):=fun W hWc hWf ty dc =>
  run_copy_cells W _ _ ty 9 b (off+i) (n+m-i) dc ⟨vb,voff,none⟩ m vc vs t24 hsz (by rw[hvl];simp only[Nat.min_def];split<;>omega)
   (fun j v hj=>by
    rw[Addr.add_lit,hWc,hW1,World.cell?_setCells_out b _ _ _ _ (fun h _=>absurd h hvb)]
    exact hvs j v hj)
   (fun j hj=>by rw[hWc,Nat.add_assoc];exact hsp1 _ (by omega)) (fun j hj=>by rw[hWf,hW1,World.frozen?_setCells];exact hfz _) h1v
 rw[← hW1] at hcp1
 clear t24
 go_enter Tryz.func101,Tryz.ntmps101
 go_wp2_with (simp only[hov])
 go_region_law_o (refine step_copy_runI rfl _ _ 133 133 rfl _ _ (by simp[Act.eval,Act.put]) (by simp[Act.eval,Act.put]) (hcp1 _ _ _) ?_)
 go_wp2_with (at_builtin;refine wpList_copy_runI _ rfl _ _ 133 133 rfl _ _ rfl rfl (hcp2 _ (fun _=>rfl) (fun _=>rfl) _ _) ?_)
 go_ret
 first|exact⟨rfl,rfl⟩|exact⟨rfl,by rw[hW1]⟩
set_option maxHeartbeats 4000000 in
theorem insert_end_room_s (b off n c vb voff m vc:Nat) (vs:List Value) (w:World) (hm:0<m) (hroom:n+m≤c) (hc63:c≤9223372036854775807)
  (hvl:vs.length=m) (hsp:∀ j,j<m→(w.cell? ⟨b,off+n+j,none⟩).isSome=true) (hfz:∀ j,w.frozen? ⟨b,j,none⟩=false)
  (hvs:∀ j v,vs[j]? = some v→w.cell? ⟨vb,voff+j,none⟩=some v) (h1v:∀ v∈vs,v.oneCell'=true) :
  Calls Tryz.prog 101 #[.slice (some ⟨b,off,none⟩) n c,.int .i64 n,.slice (some ⟨vb,voff,none⟩) m vc] w fun e w' =>
   e=.returned (.slice (some ⟨b,off,none⟩) (n+m) c)∧w'=w.setCells b (off+n) vs:=by
 have t24:=Tryz.underlying133
 have mixed:=Go.Proofs.YthjmjoioagocdaaGreatDoor.mixed
 obtain⟨i0,hi0,hz0,hzs,hzb⟩:=info_s
 have hinfo:(Tryz.prog.info? 9).map (fun i=>(i.zero,i.size,i.bytes))=some (some (.string ByteArray.empty),1,i0.bytes):=by rw[hi0];simp[hz0,hzs]
 have hz1:¬ ((m:Int)=0):=by omega
 have hsrc:Src Tryz.prog 1 133 (.slice (some ⟨vb,voff,none⟩) m vc) m vs w:=Src.ofSlice w t24 ⟨vb,voff,none⟩ m vc vs (by omega) (fun j u hj=>by rw[Addr.add_lit];exact hvs j u hj) h1v
 go_enter Tryz.func101,Tryz.ntmps101
 go_wp2_with (at_builtin;refine wpList_append_room1 _ rfl _ _ 133 133 rfl 9 _ _ t24 hinfo b off n c rfl _ rfl m vs hsrc hroom (by rw[hvl];exact hsp) (fun j _=>hfz _) ?_)
 go_ret
 exact⟨rfl,rfl⟩
set_option maxHeartbeats 4000000 in
theorem insert_end_grow_s (b off n c vb voff m vc:Nat) (cs vs:List Value) (w:World) (hm:0<m) (hnc:n≤c) (hroom:c<n+m) (hbig:n+m≤1000000)
  (hcl:cs.length=n) (hvl:vs.length=m)
  (hcs:∀ j v,cs[j]? = some v→w.cell? ⟨b,off+j,none⟩=some v)
  (hvs:∀ j v,vs[j]? = some v→w.cell? ⟨vb,voff+j,none⟩=some v) (h1v:∀ v∈vs,v.oneCell'=true) :
  Calls Tryz.prog 101 #[.slice (some ⟨b,off,none⟩) n c,.int .i64 n,.slice (some ⟨vb,voff,none⟩) m vc] w fun e w' =>
   e=.returned (.slice (some ⟨w.heap.size,0,none⟩) (n+m) (grownCap w (n+m) c 9)) ∧
   w'=w.drew.alloc (.cells ((cs++vs).toArray++Builtin.zeroCells (Value.cells (.string ByteArray.empty)) (grownCap w (n+m) c 9-(n+m))) 9):=by
 have t24:=Tryz.underlying133
 have mixed:=Go.Proofs.YthjmjoioagocdaaGreatDoor.mixed
 obtain⟨i0,hi0,hz0,hzs,hzb⟩:=info_s
 have hby:(n+m) * i0.bytes≤140737488355328:=Nat.le_trans (Nat.mul_le_mul hbig hzb) (by decide)
 have hz1:¬ ((m:Int)=0):=by omega
 have hsrc:Src Tryz.prog i0.size 133 (.slice (some ⟨vb,voff,none⟩) m vc) m vs w:=by
  rw[hzs]
  exact Src.ofSlice w t24 ⟨vb,voff,none⟩ m vc vs (by omega) (fun j u hj=>by rw[Addr.add_lit];exact hvs j u hj) h1v
 have hold:(Builtin.firstCells i0.size n (.slice (some ⟨b,off,none⟩) n c)).run Tryz.prog w.drew=.ok cs.toArray w.drew:=by
  rw[hzs]
  exact run_firstCells_some w.drew 1 n ⟨b,off,none⟩ n c cs (by omega) (fun j v hj=>by rw[Addr.add_lit];exact hcs j v hj)
 have hrun:∀ ty,(Builtin.append_ #[133,133] ty #[.slice (some ⟨b,off,none⟩) n c,.slice (some ⟨vb,voff,none⟩) m vc]).run Tryz.prog w=_:=fun ty =>
  run_append_grow_src w 133 133 ty 9 i0 _ t24 hi0 hz0 (some ⟨b,off,none⟩) n c cs hold _ m vs hsrc hroom (by omega) (growslice_fits hroom hby)
 go_enter Tryz.func101,Tryz.ntmps101
 go_wp2_with (at_builtin;refine Lib.wpList_append_run _ rfl _ _ _ _ rfl _ _ rfl rfl _ _ (hrun _) ?_)
 all_goals (go_ret;exact⟨rfl,rfl⟩)
set_option maxHeartbeats 4000000 in
theorem insert_grow_s (b off n c i vb voff m vc:Nat) (cs vs:List Value) (w:World) (hi:i<n) (hm:0<m) (hnc:n≤c) (hroom:c<n+m) (hbig:n+m≤1000000)
  (hcl:cs.length=n) (hvl:vs.length=m)
  (hcs:∀ j v,cs[j]? = some v→w.cell? ⟨b,off+j,none⟩=some v)
  (hvs:∀ j v,vs[j]? = some v→w.cell? ⟨vb,voff+j,none⟩=some v) (h1c:∀ v∈cs,v.oneCell'=true) (h1v:∀ v∈vs,v.oneCell'=true) :
  Calls Tryz.prog 101 #[.slice (some ⟨b,off,none⟩) n c,.int .i64 i,.slice (some ⟨vb,voff,none⟩) m vc] w fun e w' =>
   e=.returned (.slice (some ⟨w.heap.size,0,none⟩) (n+m) (grownCap w (n+m) c 9)) ∧
   w'=(((w.alloc (.cells ((cs.take i).toArray++Builtin.zeroCells (Value.cells (.string ByteArray.empty)) (n+m-i)++Builtin.zeroCells (Value.cells (.string ByteArray.empty)) (grownCap w (n+m) c 9-(n+m))) 9)).drew.setCells w.heap.size i vs).drew).setCells w.heap.size (i+m) (cs.drop i):=by
 have t24:=Tryz.underlying133
 have mixed:=Go.Proofs.YthjmjoioagocdaaGreatDoor.mixed
 obtain⟨i0,hi0,hz0,hzs,hzb⟩:=info_s
 have hby:(n+m) * i0.bytes≤140737488355328:=Nat.le_trans (Nat.mul_le_mul hbig hzb) (by decide)
 have hz1:¬ ((m:Int)=0):=by omega
 have hz2:¬ ((i:Int)=(n:Int)):=by omega
 have hz3:(c:Int)<(n:Int)+(m:Int):=by omega
 have hsz:(Tryz.prog.info? 9).map (·.size)=some 1:=by rw[hi0];simp[hzs]
 have hbw:b<w.heap.size:=block_lt_of_cell (hcs 0 _ (List.getElem?_eq_getElem (by omega)))
 have hvw:vb<w.heap.size:=block_lt_of_cell (hvs 0 _ (List.getElem?_eq_getElem (by omega)))
 have hkk:(n:Int)+(m:Int)-(i:Int)=((n+m-i:Nat):Int):=by omega
 have hik:i+(n+m-i)=n+m:=by omega
 have hold:(Builtin.firstCells i0.size i (.slice (some ⟨b,off,none⟩) i c)).run Tryz.prog w.drew=.ok (cs.take i).toArray w.drew:=by
  rw[hzs]
  exact run_firstCells_some w.drew 1 i ⟨b,off,none⟩ i c (cs.take i) (by rw[List.length_take];omega) (fun j v hj=>by
   rw[Addr.add_lit]
   rw[List.getElem?_take] at hj
   split at hj
   ·exact hcs j v hj
   ·cases hj)
 have hrz:∀ ty,(Builtin.append_ #[133,3] ty #[.slice (some ⟨b,off,none⟩) i c,.int .i64 ((n:Int)+(m:Int)-(i:Int))]).run Tryz.prog w =
   .ok (.slice (some ⟨w.heap.size,0,none⟩) (n+m) (grownCap w (n+m) c 9)) (w.drew.alloc (.cells ((cs.take i).toArray++Builtin.zeroCells (Value.cells (.string ByteArray.empty)) (n+m-i)++Builtin.zeroCells (Value.cells (.string ByteArray.empty)) (grownCap w (n+m) c 9-(n+m))) 9)):=fun ty=>by
  have h:=Lib.run_append_grow_zeros w 133 3 ty 9 i0 _ .i64 .i64 t24 Tryz.underlying3 hi0 hz0 (some ⟨b,off,none⟩) i c (cs.take i) hold (n+m-i) (by omega) (by omega) (by omega) (by omega) (by have:(n+m-i) * i0.bytes≤(n+m) * i0.bytes:=Nat.mul_le_mul_right _ (by omega);omega) (by rw[hik];exact growslice_fits hroom hby)
  rw[hik] at h
  rw[hkk]
  exact h
 obtain⟨G,hG⟩:∃ G,G=grownCap w (n+m) c 9:=⟨_,rfl⟩
 obtain⟨ROW,hROW⟩:∃ ROW:Array Value,ROW=(cs.take i).toArray++Builtin.zeroCells (Value.cells (.string ByteArray.empty)) (n+m-i)++Builtin.zeroCells (Value.cells (.string ByteArray.empty)) (G-(n+m)):=⟨_,rfl⟩
 rw[← hG] at hrz ⊢
 rw[← hROW] at hrz ⊢
 have hRl:n+m≤ROW.size:=by
  rw[hROW]
  simp[Builtin.zeroCells,Value.cells]
  omega
 obtain⟨W1,hW1⟩:∃ W1,W1=w.drew.alloc (.cells ROW 9):=⟨_,rfl⟩
 rw[← hW1] at hrz
 have hN:∀ j,j<n+m→(W1.cell? ⟨w.heap.size,j,none⟩).isSome=true:=fun j hj=>by
  rw[hW1,World.cell?_alloc_at (w:=w.drew) ROW _ w.heap.size j rfl,Array.getElem?_eq_getElem (by omega)];rfl
 have hNf:∀ j,W1.frozen? ⟨w.heap.size,j,none⟩=false:=fun j=>by rw[hW1];exact World.frozen?_alloc_at (w:=w.drew) ROW _ w.heap.size j rfl
 have hOb:∀ j v,w.cell? ⟨b,j,none⟩=some v→W1.cell? ⟨b,j,none⟩=some v:=fun j v h=>by rw[hW1,World.cell?_alloc_past (w:=w.drew) _ b j hbw];exact h
 have hOv:∀ j v,w.cell? ⟨vb,j,none⟩=some v→W1.cell? ⟨vb,j,none⟩=some v:=fun j v h=>by rw[hW1,World.cell?_alloc_past (w:=w.drew) _ vb j hvw];exact h
 have hcpA:∀ (W:World),(∀ x,W.cell? x=W1.cell? x)→(∀ x,W.frozen? x=W1.frozen? x)→∀ ty dc,(Builtin.copy_ #[133,133] ty #[.slice (some ⟨w.heap.size,i,none⟩) (n+m-i) dc,.slice (some ⟨vb,voff,none⟩) m vc]).run Tryz.prog W=.ok (goInt vs.length) (W.setCells w.heap.size i vs):=fun W hWc hWf ty dc =>
  run_copy_cells W _ _ ty 9 w.heap.size i (n+m-i) dc ⟨vb,voff,none⟩ m vc vs t24 hsz (by rw[hvl];simp only[Nat.min_def];split<;>omega)
   (fun j v hj=>by rw[Addr.add_lit,hWc];exact hOv _ v (hvs j v hj))
   (fun j hj=>by rw[hWc];exact hN _ (by omega)) (fun j hj=>by rw[hWf];exact hNf _) h1v
 have hGn:n+m≤G:=by rw[hG];exact grownCap_ge w _ _ _
 have hG63:G≤9223372036854775807:=by
  have:=grownCap_le_maxLen w (n+m) c 9 (by unfold maxLen;omega)
  rw[← hG] at this
  unfold maxLen at this
  omega
 have hGi:¬ (G=i):=by omega
 have hGim:¬ (G=i+m):=by omega
 have hci:¬ (c=i):=by omega
 have hbN:b≠w.heap.size:=by omega
 have hdl:(cs.drop i).length=n-i:=by rw[List.length_drop,hcl]
 have hcpB:∀ (W:World),(∀ x,W.cell? x=(W1.setCells w.heap.size i vs).cell? x)→(∀ x,W.frozen? x=(W1.setCells w.heap.size i vs).frozen? x)→∀ ty dc sc,(Builtin.copy_ #[133,133] ty #[.slice (some ⟨w.heap.size,i+m,none⟩) (n+m-(i+m)) dc,.slice (some ⟨b,off+i,none⟩) (n-i) sc]).run Tryz.prog W=.ok (goInt (cs.drop i).length) (W.setCells w.heap.size (i+m) (cs.drop i)):=fun W hWc hWf ty dc sc =>
  run_copy_cells W _ _ ty 9 w.heap.size (i+m) (n+m-(i+m)) dc ⟨b,off+i,none⟩ (n-i) sc (cs.drop i) t24 hsz (by rw[hdl];simp only[Nat.min_def];split<;>omega)
   (fun j v hj=>by
    rw[Addr.add_lit,hWc,World.cell?_setCells_out _ _ _ _ _ (fun h _=>absurd h hbN),Nat.add_assoc]
    exact hOb _ v (hcs (i+j) v (by rwa [List.getElem?_drop] at hj)))
   (fun j hj=>by rw[hWc];exact Go.Proofs.isSome_setCells _ _ _ _ (fun t ht=>hN _ (by omega)) _ (hN _ (by omega)))
   (fun j hj=>by rw[hWf,World.frozen?_setCells];exact hNf _) (fun v hv=>h1c v (List.mem_of_mem_drop hv))
 subst hW1
 have hE1:∀ x,((w.alloc (.cells ROW 9)).drew).cell? x=(w.drew.alloc (.cells ROW 9)).cell? x:=fun x=>rfl
 have hE2:∀ x,((w.alloc (.cells ROW 9)).drew).frozen? x=(w.drew.alloc (.cells ROW 9)).frozen? x:=fun x=>rfl
 have hF1:∀ x,(((w.alloc (.cells ROW 9)).drew.setCells w.heap.size i vs).drew).cell? x=((w.drew.alloc (.cells ROW 9)).setCells w.heap.size i vs).cell? x:=fun x=>rfl
 have hF2:∀ x,(((w.alloc (.cells ROW 9)).drew.setCells w.heap.size i vs).drew).frozen? x=((w.drew.alloc (.cells ROW 9)).setCells w.heap.size i vs).frozen? x:=fun x=>rfl
 have hw1:IntKind.i64.wrap ((i:Int)+(m:Int))=(i:Int)+(m:Int):=by rw[IntKind.wrap_i64];omega
 have hb1:(0:Int)≤(i:Int)+(m:Int):=by omega
 have hin:i≤n:=by omega
 have htn:((i:Int)+(m:Int)).toNat=i+m:=by omega
 have hb3:(i:Int)≤(n:Int):=by omega
 clear hkk hik hold hROW hG hRl t24
 go_enter Tryz.func101,Tryz.ntmps101
 go_wp2_with (first
  |(at_builtin;refine Lib.wpList_append_run _ rfl _ _ _ _ rfl _ _ rfl rfl _ _ (hrz _) ?_)
  |(at_builtin;refine wpList_copy_runI _ rfl _ _ 133 133 rfl _ _ rfl rfl (hcpA _ hE1 hE2 _ _) ?_)
  |(at_builtin;refine wpList_copy_runI _ rfl _ _ 133 133 rfl _ _ rfl rfl (hcpB _ (fun _=>rfl) (fun _=>rfl) _ _ _) ?_))
 go_region_law_o (refine step_copy_runI rfl _ _ 133 133 rfl (.slice (some ⟨w.heap.size,i+m,none⟩) (n+m-(i+m)) (G-(i+m))) (.slice (some ⟨b,off+i,none⟩) (n-i) (c-i)) (by simp[Act.eval,Act.put]) (by simp[Act.eval,Act.put]) (hcpB _ hF1 hF2 3 (G-(i+m)) (c-i)) ?_)
 go_wp2
 go_ret
 exact⟨rfl,rfl⟩
theorem Upd.below {b B:Nat}{w w':World}(h:Upd b w w')(hB:B≤b):Below B w w':=⟨h.os,h.tape,h.output,Nat.le_of_eq h.size.symm,fun k hk=>h.block k (by omega)⟩
theorem _root_.Go.Proofs.YthjmjoioagocdaaGreatDoor.Move.wide {M M':Mem}(h:Move M M' none)(b:Nat):Move M M' (some b):=⟨h.os,h.tape,h.output,h.size,fun k hk _=>h.block k hk (by simp),h.le⟩
theorem grow_row {w:World}{arr vs:List Value}{E:TypeId}{i n:Nat}(hl:arr.length=n)(hi:i≤n)(A B:Array Value)(hA:A.size=n+vs.length-i) :
  RowP ((((w.alloc (.cells ((arr.take i).toArray++A++B) E)).drew.setCells w.heap.size i vs).drew).setCells w.heap.size (i+vs.length) (arr.drop i)) w.heap.size E (arr.take i++vs++arr.drop i) ∧
  Upd w.heap.size (w.alloc (.cells ((arr.take i).toArray++A++B) E)) ((((w.alloc (.cells ((arr.take i).toArray++A++B) E)).drew.setCells w.heap.size i vs).drew).setCells w.heap.size (i+vs.length) (arr.drop i)):=by
 have hd:(arr.drop i).length=n-i:=by simp[hl]
 have htk:(arr.take i).length=i:=by simp;omega
 obtain⟨row,hrow⟩:∃ row,row=(arr.take i).toArray++A++B:=⟨_,rfl⟩
 have hsz:row.size=i+(n+vs.length-i)+B.size:=by rw[hrow];simp[hA];omega
 have hr:∀ t,t<i→row[t]? = arr[t]? := fun t ht=>by
  rw[hrow,Array.append_assoc,Array.getElem?_append_left (by simp;omega)]
  rw[show (arr.take i).toArray[t]? = (arr.take i)[t]? from List.getElem?_toArray,List.getElem?_take,if_pos ht]
 rw[← hrow]
 have hU:Upd w.heap.size (w.alloc (.cells row E)) ((((w.alloc (.cells row E)).drew.setCells w.heap.size i vs).drew).setCells w.heap.size (i+vs.length) (arr.drop i)):=(((Upd.refl _ _).drew.step _ _).drew).step _ _
 have h0:(w.alloc (.cells row E)).heap[w.heap.size]? = some (.cells row E (0,0)):=heap_alloc_new _ _
 have hS:∀ o,o<n+vs.length→((w.alloc (.cells row E)).cell? ⟨w.heap.size,o,none⟩).isSome=true:=fun o ho=>by
  rw[cell_of_row _ _ _ row E (0,0) h0,Array.getElem?_eq_getElem (by omega)];rfl
 have hU1:Upd w.heap.size (w.alloc (.cells row E)) (((w.alloc (.cells row E)).drew.setCells w.heap.size i vs).drew):=((Upd.refl _ _).drew.step _ _).drew
 have hS1:∀ o,o<n+vs.length→((((w.alloc (.cells row E)).drew.setCells w.heap.size i vs).drew).cell? ⟨w.heap.size,o,none⟩).isSome=true:=fun o ho=>by
  obtain⟨c,k1,k2⟩:=hU1.row _ _ _ h0
  rw[cell_of_row _ _ _ c E (0,0) k1,Array.getElem?_eq_getElem (by omega)];rfl
 obtain⟨c,k1,k2⟩:=hU.row _ _ _ h0
 refine⟨rowP_cells k1 fun t u hu=>?_,hU⟩
 by_cases ht:t<i
 ·rw[World.cell?_setCells_out _ _ _ _ _ (fun _ _=>.inl (by show t<_;omega))]
  show ((w.alloc (.cells row E)).drew.setCells w.heap.size i vs).cell? _=_
  rw[World.cell?_setCells_out _ _ _ _ _ (fun _ _=>.inl (by show t<_;omega))]
  show (w.alloc (.cells row E)).cell? _=_
  rw[cell_of_row _ _ _ row E (0,0) h0,hr t ht]
  rwa [List.append_assoc,List.getElem?_append_left (by omega),List.getElem?_take,if_pos ht] at hu
 ·by_cases ht2:t<i+vs.length
  ·obtain⟨q,rfl⟩:∃ q,t=i+q:=⟨t-i,by omega⟩
   rw[List.append_assoc,List.getElem?_append_right (by omega),htk,Nat.add_sub_cancel_left,List.getElem?_append_left (by omega)] at hu
   obtain⟨hq,hu⟩:=List.getElem?_eq_some_iff.1 hu
   rw[World.cell?_setCells_out _ _ _ _ _ (fun _ _=>.inl (by show i+q<_;omega))]
   have:=World.cell?_setCells_in w.heap.size vs i (w.alloc (.cells row E)).drew (fun x hx=>hS (i+x) (by omega)) q hq
   show ((w.alloc (.cells row E)).drew.setCells w.heap.size i vs).cell? _=_
   rw[this,hu]
  ·obtain⟨q,rfl⟩:∃ q,t=i+vs.length+q:=⟨t-i-vs.length,by omega⟩
   rw[List.getElem?_append_right (by simp;omega)] at hu
   simp only[List.length_append,htk,Nat.add_sub_cancel_left] at hu
   obtain⟨hq,hu⟩:=List.getElem?_eq_some_iff.1 hu
   have:=World.cell?_setCells_in w.heap.size (arr.drop i) (i+vs.length) (((w.alloc (.cells row E)).drew.setCells w.heap.size i vs).drew) (fun x hx=>hS1 (i+vs.length+x) (by omega)) q hq
   rw[this,hu]
theorem end_room_row {w:World}{b:Nat}{e:TypeId}{arr vs:List Value}(hr:RowP w b e arr){c n:Nat}(hs:Sized w b (c * 1))(hl:arr.length=n)(hroom:n+vs.length≤c):RowP (w.setCells b (0+n) vs) b e (arr++vs):=by
 refine ((Upd.refl b w).step (0+n) vs).rowP hr fun t u hu=>?_
 by_cases ht:t<n
 ·rw[World.cell?_setCells_out b _ _ _ _ (fun _ _=>.inl (by show t<_;omega))]
  rw[List.getElem?_append_left (by omega)] at hu
  exact hr.cell hu
 ·obtain⟨q,rfl⟩:∃ q,t=n+q:=⟨t-n,by omega⟩
  rw[List.getElem?_append_right (by omega),hl,Nat.add_sub_cancel_left] at hu
  obtain⟨hq,hu⟩:=List.getElem?_eq_some_iff.1 hu
  have:=World.cell?_setCells_in b vs (0+n) w (fun x hx=>sized_some hs (by omega)) q hq
  rw[show n+q=0+n+q by omega,this,hu]
theorem shape_cell {w:World}{b o:Nat}{u:Value}(h:w.cell? ⟨b,o,none⟩=some u):∃ t k,w.shape? b=some (t,k)∧k≠0:=by
 unfold World.cell? at h
 split at h
 ·rename_i c e fr hb
  refine⟨e,c.size,by simp[World.shape?,hb],?_⟩
  intro h0
  rw[Array.size_eq_zero_iff.1 h0] at h
  simp at h
 ·simp at h
theorem zeroCells_one (z:Value)(hz:z.cells.size=1)(n:Nat):(Builtin.zeroCells z.cells n).size=n:=by
 simp[Builtin.zeroCells,hz]
theorem new_move {M:Mem}{w':World}(hb:Below M.w.heap.size M.w w'):Move M ⟨w',fun x=>if x<M.w.heap.size then M.U x else 0,M.y⟩ none:=Move.mk0 hb fun x hx=>by simp[hx]
def p_insert_s:CFn:=⟨fun sz n cells xs kk=>match xs with|[.int .i64 i,.sl _ 1 m vs]=>bif decide (sz=1)&&(decide (cells.length=n)&&(decide (0≤i)&&(decide (i≤n)&&(decide (0<m)&&decide (n+m≤1000000))))) then kk (n+m) (cells.take i.toNat++vs++cells.drop i.toNat) else none|_=>none⟩
def p_insert_i:CFn:=⟨fun sz n cells xs kk=>match xs with|[.int .i64 i,.sl _ 1 m vs]=>bif decide (sz=1)&&(decide (cells.length=n)&&(decide (0≤i)&&(decide (i≤n)&&(decide (0<m)&&decide (n+m≤1000000))))) then kk (n+m) (cells.take i.toNat++vs++cells.drop i.toNat) else none|_=>none⟩
set_option maxHeartbeats 4000000 in
theorem cok_insert_s {NG:Nat} {W:World→Prop}:COK NG W 101 p_insert_s where
 nat := by
  intro R sz n cells xs kk
  simp only[p_insert_s]
  split
  ·rename_i i _ m vs
   rcases (decide (sz=1)&&(decide (cells.length=n)&&(decide (0≤i)&&(decide (i≤n)&&(decide (0<m)&&decide (n+m≤1000000)))))) with _|_<;>rfl
  ·rfl
 call := by
  intro M b c e arr sz n cells xs vs n' cells' hW hng hG hrow hr hU hNG hnc hcm hsz hrT h
  simp only[p_insert_s] at h
  split at h
  ·rename_i i nl m ws
   rcases hb:(decide (sz=1)&&(decide (cells.length=n)&&(decide (0≤i)&&(decide (i≤n)&&(decide (0<m)&&decide (n+m≤1000000)))))) with _|_<;>rw[hb] at h
   ·cases h
   simp only[cond_true,Option.some.injEq,Prod.mk.injEq] at h
   obtain⟨rfl,rfl⟩:=h
   simp only[Bool.and_eq_true,decide_eq_true_eq] at hb
   obtain⟨b1,b2,b3,b4,b5,b6⟩:=hb
   obtain⟨u1,u2,rfl,g1,g2⟩:=relT2 hrT
   simp only[RelD] at g1 g2
   subst g1
   obtain⟨A,vc,us,rfl,j1,j2,j3,j4,j5,j6,j7⟩:=g2
   have hul:us.length=m:=by rw[← j6.length,j5];omega
   obtain rfl|⟨vb,voff,rfl,hat⟩:=j7
   ·simp at hul;omega
   obtain⟨i,rfl⟩:∃ m:Nat,i=(m:Int):=⟨i.toNat,by omega⟩
   have hl:arr.length=n:=by rw[← hr.length,b2]
   have hi:i≤n:=by omega
   subst b1
   simp only[Int.toNat_natCast]
   have hvs:∀ j v,us[j]? = some v→M.w.cell? ⟨vb,voff+j,none⟩=some v:=fun j v hj=>(hat j v hj).1
   obtain⟨u0,hu0⟩:∃ u,us[0]? = some u:=⟨_,List.getElem?_eq_getElem (by omega)⟩
   have hvb:vb≠b:=by
    rintro rfl
    have:=(hat 0 u0 hu0).2
    omega
   have hcs:∀ j v,arr[j]? = some v→M.w.cell? ⟨b,0+j,none⟩=some v:=fun j v hj=>by rw[Nat.zero_add];exact hrow.cell hj
   obtain⟨tA,kA,hsa,hkA⟩:=shape_cell (hvs 0 u0 hu0)
   obtain⟨tB,kB,hsb⟩:∃ t k,M.w.shape? b=some (t,k):=by
    obtain⟨cur,e',h1,_⟩:=hsz
    exact⟨e',cur.size,by simp[World.shape?,h1]⟩
   have hc63:c≤9223372036854775807:=by unfold maxLen at hcm;omega
   have hent:∀ vs,(callFunc 101 vs).run Tryz.prog M.w=.ok (.enter 101 vs) M.w:=fun vs=>by
    simp[callFunc,Tryz.func101]
    rw[if_neg (by decide),if_neg (by decide)]
   refine .inr ⟨hent _,?_⟩
   by_cases hroom:n+m≤c
   ·by_cases hin:i<n
    ·refine (insert_shift_s b 0 n c i vb voff m vc arr us M.w hin b5 hroom hc63 hvb hl hul hcs (fun j hj=>sized_some hsz (by omega)) (fun j=>sized_fz hsz _) hvs hr.one j6.one tA tB kA kB hsa hsb hkA).mono ?_
     rintro e' w' ⟨rfl,rfl⟩
     subst hul
     have hU':Upd b M.w ((M.w.drew.setCells b (0+(i+us.length)) (arr.drop i)).setCells b (0+i) us):=((Upd.refl b M.w).drew.step _ _).step _ _
     have hm:=hU'.move hU
     exact⟨_,rfl,M.U,hm,b,c,e,_,rfl,.inl rfl,insert_room_row hrow hsz hl hi hroom,(((hr.take i).append j6).append (hr.drop i)).mono hm.le,hU,hroom,hcm,hU'.sized hsz⟩
    ·obtain rfl:i=n:=by omega
     refine (insert_end_room_s b 0 i c vb voff m vc us M.w b5 hroom hc63 hul (fun j hj=>sized_some hsz (by omega)) (fun j=>sized_fz hsz _) hvs j6.one).mono ?_
     rintro e' w' ⟨rfl,rfl⟩
     subst hul
     have hU':Upd b M.w (M.w.setCells b (0+i) us):=(Upd.refl b M.w).step _ _
     have hm:=hU'.move hU
     refine⟨_,rfl,M.U,hm,b,c,e,arr++us,rfl,.inl rfl,end_room_row hrow hsz hl hroom,?_,hU,hroom,hcm,hU'.sized hsz⟩
     rw[List.take_of_length_le (by omega),List.drop_eq_nil_of_le (by omega),List.append_nil]
     exact (hr.append j6).mono hm.le
   ·have hGn:n+m≤grownCap M.w (n+m) c 9:=grownCap_ge M.w _ _ _
    have hGm:grownCap M.w (n+m) c 9≤maxLen:=grownCap_le_maxLen M.w (n+m) c 9 (by unfold maxLen;omega)
    obtain⟨G,hG⟩:∃ G,G=grownCap M.w (n+m) c 9:=⟨_,rfl⟩
    by_cases hin:i<n
    ·refine (insert_grow_s b 0 n c i vb voff m vc arr us M.w hin b5 hnc (by omega) b6 hl hul hcs hvs hr.one j6.one).mono ?_
     rintro e' w' ⟨rfl,rfl⟩
     rw[← hG] at hGn hGm ⊢
     subst hul
     obtain⟨q1,q2⟩:=grow_row (w:=M.w) (vs:=us) (E:=9) hl hi (Builtin.zeroCells (Value.cells (.string ByteArray.empty)) (n+us.length-i)) (Builtin.zeroCells (Value.cells (.string ByteArray.empty)) (G-(n+us.length))) (zeroCells_one _ (by decide) _)
     have hm:=new_move (M:=M) (((Below.refl _ M.w).alloc (Nat.le_refl _) _).trans (q2.below (Nat.le_refl _)))
     refine⟨_,rfl,_,hm.wide b,M.w.heap.size,G,_,_,rfl,.inr (Nat.le_refl _),q1,(((hr.take i).append j6).append (hr.drop i)).mono hm.le,by simp,hGn,hGm,q2.sized ⟨_,_,heap_alloc_new _ _,?_⟩⟩
     simp only[Array.size_append,zeroCells_one _ (show (Value.cells (.string ByteArray.empty)).size=1 by decide),List.size_toArray,List.length_take]
     omega
    ·obtain rfl:i=n:=by omega
     refine (insert_end_grow_s b 0 i c vb voff m vc arr us M.w b5 hnc (by omega) b6 hl hul hcs hvs j6.one).mono ?_
     rintro e' w' ⟨rfl,rfl⟩
     rw[← hG] at hGn hGm ⊢
     have hm:=new_move (M:=M) (((Below.refl _ M.w).drew.alloc (Nat.le_refl _) (.cells ((arr++us).toArray++Builtin.zeroCells (Value.cells (.string ByteArray.empty)) (G-(i+m))) 9)))
     refine⟨_,rfl,_,hm.wide b,M.w.heap.size,G,9,arr++us,rfl,.inr (Nat.le_refl _),⟨(Builtin.zeroCells (Value.cells (.string ByteArray.empty)) (G-(i+m))).toList,?_⟩,?_,by simp,hGn,hGm,⟨_,_,heap_alloc_new _ _,?_⟩⟩
     ·refine (heap_alloc_new M.w.drew _).trans ?_
      simp
     ·rw[List.take_of_length_le (by omega),List.drop_eq_nil_of_le (by omega),List.append_nil]
      exact (hr.append j6).mono hm.le
     ·simp only[Array.size_append,zeroCells_one _ (show (Value.cells (.string ByteArray.empty)).size=1 by decide),List.size_toArray,List.length_append]
      omega
  ·cases h
set_option maxHeartbeats 4000000 in
theorem cok_insert_i {NG:Nat} {W:World→Prop}:COK NG W 101 p_insert_i where
 nat := by
  intro R sz n cells xs kk
  simp only[p_insert_i]
  split
  ·rename_i i _ m vs
   rcases (decide (sz=1)&&(decide (cells.length=n)&&(decide (0≤i)&&(decide (i≤n)&&(decide (0<m)&&decide (n+m≤1000000)))))) with _|_<;>rfl
  ·rfl
 call := by
  intro M b c e arr sz n cells xs vs n' cells' hW hng hG hrow hr hU hNG hnc hcm hsz hrT h
  simp only[p_insert_i] at h
  split at h
  ·rename_i i nl m ws
   rcases hb:(decide (sz=1)&&(decide (cells.length=n)&&(decide (0≤i)&&(decide (i≤n)&&(decide (0<m)&&decide (n+m≤1000000)))))) with _|_<;>rw[hb] at h
   ·cases h
   simp only[cond_true,Option.some.injEq,Prod.mk.injEq] at h
   obtain⟨rfl,rfl⟩:=h
   simp only[Bool.and_eq_true,decide_eq_true_eq] at hb
   obtain⟨b1,b2,b3,b4,b5,b6⟩:=hb
   obtain⟨u1,u2,rfl,g1,g2⟩:=relT2 hrT
   simp only[RelD] at g1 g2
   subst g1
   obtain⟨A,vc,us,rfl,j1,j2,j3,j4,j5,j6,j7⟩:=g2
   have hul:us.length=m:=by rw[← j6.length,j5];omega
   obtain rfl|⟨vb,voff,rfl,hat⟩:=j7
   ·simp at hul;omega
   obtain⟨i,rfl⟩:∃ m:Nat,i=(m:Int):=⟨i.toNat,by omega⟩
   have hl:arr.length=n:=by rw[← hr.length,b2]
   have hi:i≤n:=by omega
   subst b1
   simp only[Int.toNat_natCast]
   have hvs:∀ j v,us[j]? = some v→M.w.cell? ⟨vb,voff+j,none⟩=some v:=fun j v hj=>(hat j v hj).1
   obtain⟨u0,hu0⟩:∃ u,us[0]? = some u:=⟨_,List.getElem?_eq_getElem (by omega)⟩
   have hvb:vb≠b:=by
    rintro rfl
    have:=(hat 0 u0 hu0).2
    omega
   have hcs:∀ j v,arr[j]? = some v→M.w.cell? ⟨b,0+j,none⟩=some v:=fun j v hj=>by rw[Nat.zero_add];exact hrow.cell hj
   obtain⟨tA,kA,hsa,hkA⟩:=shape_cell (hvs 0 u0 hu0)
   obtain⟨tB,kB,hsb⟩:∃ t k,M.w.shape? b=some (t,k):=by
    obtain⟨cur,e',h1,_⟩:=hsz
    exact⟨e',cur.size,by simp[World.shape?,h1]⟩
   have hc63:c≤9223372036854775807:=by unfold maxLen at hcm;omega
   have hent:∀ vs,(callFunc 101 vs).run Tryz.prog M.w=.ok (.enter 101 vs) M.w:=fun vs=>by
    simp[callFunc,Tryz.func101]
    rw[if_neg (by decide),if_neg (by decide)]
   refine .inr ⟨hent _,?_⟩
   by_cases hroom:n+m≤c
   ·by_cases hin:i<n
    ·refine (insert_shift_s b 0 n c i vb voff m vc arr us M.w hin b5 hroom hc63 hvb hl hul hcs (fun j hj=>sized_some hsz (by omega)) (fun j=>sized_fz hsz _) hvs hr.one j6.one tA tB kA kB hsa hsb hkA).mono ?_
     rintro e' w' ⟨rfl,rfl⟩
     subst hul
     have hU':Upd b M.w ((M.w.drew.setCells b (0+(i+us.length)) (arr.drop i)).setCells b (0+i) us):=((Upd.refl b M.w).drew.step _ _).step _ _
     have hm:=hU'.move hU
     exact⟨_,rfl,M.U,hm,b,c,e,_,rfl,.inl rfl,insert_room_row hrow hsz hl hi hroom,(((hr.take i).append j6).append (hr.drop i)).mono hm.le,hU,hroom,hcm,hU'.sized hsz⟩
    ·obtain rfl:i=n:=by omega
     refine (insert_end_room_s b 0 i c vb voff m vc us M.w b5 hroom hc63 hul (fun j hj=>sized_some hsz (by omega)) (fun j=>sized_fz hsz _) hvs j6.one).mono ?_
     rintro e' w' ⟨rfl,rfl⟩
     subst hul
     have hU':Upd b M.w (M.w.setCells b (0+i) us):=(Upd.refl b M.w).step _ _
     have hm:=hU'.move hU
     refine⟨_,rfl,M.U,hm,b,c,e,arr++us,rfl,.inl rfl,end_room_row hrow hsz hl hroom,?_,hU,hroom,hcm,hU'.sized hsz⟩
     rw[List.take_of_length_le (by omega),List.drop_eq_nil_of_le (by omega),List.append_nil]
     exact (hr.append j6).mono hm.le
   ·have hGn:n+m≤grownCap M.w (n+m) c 9:=grownCap_ge M.w _ _ _
    have hGm:grownCap M.w (n+m) c 9≤maxLen:=grownCap_le_maxLen M.w (n+m) c 9 (by unfold maxLen;omega)
    obtain⟨G,hG⟩:∃ G,G=grownCap M.w (n+m) c 9:=⟨_,rfl⟩
    by_cases hin:i<n
    ·refine (insert_grow_s b 0 n c i vb voff m vc arr us M.w hin b5 hnc (by omega) b6 hl hul hcs hvs hr.one j6.one).mono ?_
     rintro e' w' ⟨rfl,rfl⟩
     rw[← hG] at hGn hGm ⊢
     subst hul
     obtain⟨q1,q2⟩:=grow_row (w:=M.w) (vs:=us) (E:=9) hl hi (Builtin.zeroCells (Value.cells (.string ByteArray.empty)) (n+us.length-i)) (Builtin.zeroCells (Value.cells (.string ByteArray.empty)) (G-(n+us.length))) (zeroCells_one _ (by decide) _)
     have hm:=new_move (M:=M) (((Below.refl _ M.w).alloc (Nat.le_refl _) _).trans (q2.below (Nat.le_refl _)))
     refine⟨_,rfl,_,hm.wide b,M.w.heap.size,G,_,_,rfl,.inr (Nat.le_refl _),q1,(((hr.take i).append j6).append (hr.drop i)).mono hm.le,by simp,hGn,hGm,q2.sized ⟨_,_,heap_alloc_new _ _,?_⟩⟩
     simp only[Array.size_append,zeroCells_one _ (show (Value.cells (.string ByteArray.empty)).size=1 by decide),List.size_toArray,List.length_take]
     omega
    ·obtain rfl:i=n:=by omega
     refine (insert_end_grow_s b 0 i c vb voff m vc arr us M.w b5 hnc (by omega) b6 hl hul hcs hvs j6.one).mono ?_
     rintro e' w' ⟨rfl,rfl⟩
     rw[← hG] at hGn hGm ⊢
     have hm:=new_move (M:=M) (((Below.refl _ M.w).drew.alloc (Nat.le_refl _) (.cells ((arr++us).toArray++Builtin.zeroCells (Value.cells (.string ByteArray.empty)) (G-(i+m))) 9)))
     refine⟨_,rfl,_,hm.wide b,M.w.heap.size,G,9,arr++us,rfl,.inr (Nat.le_refl _),⟨(Builtin.zeroCells (Value.cells (.string ByteArray.empty)) (G-(i+m))).toList,?_⟩,?_,by simp,hGn,hGm,⟨_,_,heap_alloc_new _ _,?_⟩⟩
     ·refine (heap_alloc_new M.w.drew _).trans ?_
      simp
     ·rw[List.take_of_length_le (by omega),List.drop_eq_nil_of_le (by omega),List.append_nil]
      exact (hr.append j6).mono hm.le
     ·simp only[Array.size_append,zeroCells_one _ (show (Value.cells (.string ByteArray.empty)).size=1 by decide),List.size_toArray,List.length_append]
      omega
  ·cases h
theorem info_n:∃ i0,Tryz.prog.info? 125=some i0∧i0.zero=some (.pointer none)∧i0.size=1∧i0.bytes≤100:=⟨Tryz.t125,by kernel_rfl,by kernel_rfl,by kernel_rfl,by decide⟩
theorem zero_n:(∀ w,(zeroValue 125).run Tryz.prog w=.ok (.pointer none) w)∧Value.cells (.pointer none)=#[(.pointer none)]∧Value.oneCell' (.pointer none)=true:=⟨Tryz.zeroValue125,rfl,rfl⟩
theorem run_clear_empty {P:Program}(w:World)(t e ty:TypeId)(ht:P.underlying t=some (.slice e))(a:Option Addr)(c:Nat):(Builtin.clear_ #[t] ty #[.slice a 0 c]).run P w=.ok (.tuple #[]) w:=by
 cases a<;>simp[Builtin.clear_,run_underlying ht]
theorem run_overlaps_own' {P:Program}(w:World)(tS tR e:TypeId)(ht:P.underlying tS=some (.slice e))(size:Nat)(hz:∀ w,(Go.sizeOf e).run P w=.ok size w)
  (a b:Addr) (la ca lb cb:Nat) (hne:b.block≠a.block) (tA tB:TypeId) (kA kB:Nat) (hsa:w.shape? a.block=some (tA,kA)) (hsb:w.shape? b.block=some (tB,kB)) (hkB:kB≠0) (hf:∀ o,w.frozen? ⟨a.block,o,none⟩=false) (hfa:w.frozen? a=false) :
  (Extern.SlicesOverlaps.overlaps #[tS,tS] #[tR] #[.slice (some a) la ca,.slice (some b) lb cb]).run P w=.ok (.bool false) w:=by
 have hnb:(a.block != b.block)=true:=by simpa using Ne.symm hne
 have hnb':(a.block==b.block)=false:=by simpa using Ne.symm hne
 change Sem.run P (α:=Value) (do
  let some t:=(#[tS,tS]:Array TypeId)[0]? | stuck "slices.overlaps: no parameter types"
  let .slice elem ← underlying t|stuck "slices.overlaps: slice type expected"
  let size ← sizeOf elem
  match (some a:Option Addr),(some b:Option Addr) with
  |some a,some b =>
   if la=0∨lb=0∨size=0 then pure (Value.bool false)
   else if a.block != b.block&&(← frozen a)&&(← frozen b) then unsupported .addressObserved
   else do
    if a.block != b.block then do
     noView a;noView b
     if ← mayBeOne a b then return Value.bool ((← choose (.extern "sameAddr.stringBytes" 2))==1)
    pure (Value.bool (a.block==b.block&&a.off<b.off+lb * size&&b.off<a.off+la * size))
  |_,_=>pure (Value.bool false)) w=_
 by_cases h0:la=0∨lb=0∨size=0
 ·simp[run_underlying ht,hz,h0]
 ·cases kB with
  |zero=>exact absurd rfl hkB
  |succ kB =>
   rcases h1:w.frozen? b with _|_<;>rcases h2:w.frozen? ⟨b.block,kB+1,none⟩ with _|_ <;>
   simp[run_underlying ht,hz,h0,hnb,hnb',frozen,noView,viewAt,mayBeOne,stringish,shape,Sem.run,hsa,hsb,hf,hfa,h1,h2]
set_option maxHeartbeats 4000000 in
theorem replace_left (b off d c i j vb voff m vc:Nat) (cs vs:List Value) (w:World) (hij:i<j) (hd:0<d) (hm:0<m) (hnc:j+d≤c) (hroom:i+m<j) (hc63:c≤9223372036854775807) (hvb:vb≠b)
  (hcl:cs.length=j+d) (hvl:vs.length=m)
  (hcs:∀ j v,cs[j]? = some v→w.cell? ⟨b,off+j,none⟩=some v) (hfz:∀ j,w.frozen? ⟨b,j,none⟩=false)
  (hvs:∀ j v,vs[j]? = some v→w.cell? ⟨vb,voff+j,none⟩=some v) (h1c:∀ v∈cs,v.oneCell'=true) (h1v:∀ v∈vs,v.oneCell'=true) :
  Calls Tryz.prog 104 #[.slice (some ⟨b,off,none⟩) (j+d) c,.int .i64 i,.int .i64 j,.slice (some ⟨vb,voff,none⟩) m vc] w fun e w' =>
   e=.returned (.slice (some ⟨b,off,none⟩) (i+m+d) c)∧w'=(((w.drew.setCells b (off+i) vs).drew).setCells b (off+(i+m)) (cs.drop j)).setCells b (off+(i+m+d)) (List.replicate (j+d-(i+m+d)) (.pointer none)):=by
 have t24:=Tryz.underlying134
 have mixed:=Go.Proofs.YthjmjoioagocdaaGreatDoor.mixed
 obtain⟨i0,hi0,hz0,hzs,hzb⟩:=info_n
 obtain⟨v3,v3c,v3o⟩:=zero_n
 have hsz:(Tryz.prog.info? 125).map (·.size)=some 1:=by rw[hi0];simp[hzs]
 have hdl:(cs.drop j).length=d:=by rw[List.length_drop,hcl];omega
 have hsp:∀ t,t<j+d→(w.cell? ⟨b,off+t,none⟩).isSome=true:=fun t ht=>by rw[hcs t _ (List.getElem?_eq_getElem (by omega))];rfl
 have hS:∀ (o:Nat) (vs:List Value) (W:World),(∀ t,t<j+d→(W.cell? ⟨b,off+t,none⟩).isSome=true)→o+vs.length≤j+d→∀ t,t<j+d→((W.setCells b (off+o) vs).cell? ⟨b,off+t,none⟩).isSome=true:=fun o vs W hW ho t ht =>
  Go.Proofs.isSome_setCells b _ _ _ (fun x hx=>by rw[Nat.add_assoc];exact hW _ (by omega)) _ (hW t ht)
 have f1:¬ ((i:Int)=(j:Int)):=by omega
 have f2:¬ ((j:Int)=(j:Int)+(d:Int)):=by omega
 have f3:IntKind.i64.wrap ((i:Int)+(m:Int))=(i:Int)+(m:Int):=by rw[IntKind.wrap_i64];omega
 have f4:IntKind.i64.wrap ((i:Int)+(m:Int)+(d:Int))=(i:Int)+(m:Int)+(d:Int):=by rw[IntKind.wrap_i64];omega
 have f5:((i:Int)+(m:Int)).toNat=i+m:=by omega
 have f6:((i:Int)+(m:Int)+(d:Int)).toNat=i+m+d:=by omega
 have f9:(0:Int)≤(i:Int)+(m:Int):=by omega
 have f10:(0:Int)≤(i:Int)+(m:Int)+(d:Int):=by omega
 have q1:(j:Int)≤(j:Int)+(d:Int):=by omega
 have q2:(i:Int)≤(j:Int)+(d:Int):=by omega
 have q3:(i:Int)≤(i:Int)+(m:Int)+(d:Int):=by omega
 have q4:(i:Int)+(m:Int)≤(i:Int)+(m:Int)+(d:Int):=by omega
 have p1:i≤c:=by omega
 have p2:j≤c:=by omega
 have p3:i≤j:=by omega
 have p6:i≤i+m+d:=by omega
 have g1:¬ (c=i):=by omega
 have g2:¬ (c=j):=by omega
 have f7:¬ ((c:Int)<(i:Int)+(m:Int)+(d:Int)):=by omega
 have q6:(i:Int)+(m:Int)+(d:Int)≤(c:Int):=by omega
 have p4:i+m≤c:=by omega
 have p5:i+m+d≤c:=by omega
 have g3:¬ (c=i+m):=by omega
 have f8:(i:Int)+(m:Int)≤(j:Int):=by omega
 have q5:(i:Int)+(m:Int)+(d:Int)≤(j:Int)+(d:Int):=by omega
 have p7:i+m+d≤j+d:=by omega
 have p8:i+m≤j:=by omega
 have g4:¬ (c=i+m+d):=by omega
 have hcp1:∀ ty dc,(Builtin.copy_ #[134,134] ty #[.slice (some ⟨b,off+i,none⟩) (i+m+d-i) dc,.slice (some ⟨vb,voff,none⟩) m vc]).run Tryz.prog w.drew=.ok (goInt vs.length) (w.drew.setCells b (off+i) vs):=fun ty dc =>
  run_copy_cells w.drew _ _ ty 125 b (off+i) (i+m+d-i) dc ⟨vb,voff,none⟩ m vc vs t24 hsz (by rw[hvl];simp only[Nat.min_def];split<;>omega)
   (fun j v hj=>by rw[Addr.add_lit];exact hvs j v hj)
   (fun x hx=>by rw[Nat.add_assoc];exact hsp _ (by omega)) (fun x hx=>hfz _) h1v
 obtain⟨W1,hW1⟩:∃ W1,W1=w.drew.setCells b (off+i) vs:=⟨_,rfl⟩
 have hS1:∀ t,t<j+d→(W1.cell? ⟨b,off+t,none⟩).isSome=true:=by rw[hW1];exact hS i vs w.drew hsp (by omega)
 have hcp2:∀ ty dc sc,(Builtin.copy_ #[134,134] ty #[.slice (some ⟨b,off+(i+m),none⟩) (i+m+d-(i+m)) dc,.slice (some ⟨b,off+j,none⟩) d sc]).run Tryz.prog W1.drew=.ok (goInt (cs.drop j).length) (W1.drew.setCells b (off+(i+m)) (cs.drop j)):=fun ty dc sc =>
  run_copy_cells W1.drew _ _ ty 125 b (off+(i+m)) (i+m+d-(i+m)) dc ⟨b,off+j,none⟩ d sc (cs.drop j) t24 hsz (by rw[hdl];simp only[Nat.min_def];split<;>omega)
   (fun x v hx=>by
    rw[Addr.add_lit]
    show W1.cell? _=_
    rw[hW1,World.cell?_setCells_out b _ _ _ _ (fun _ _=>.inr (by show _≤off+j+x;omega)),Nat.add_assoc]
    exact hcs (j+x) v (by rwa [List.getElem?_drop] at hx))
   (fun x hx=>by rw[Nat.add_assoc];exact hS1 _ (by omega)) (fun x hx=>by show W1.frozen? _=_;rw[hW1,World.frozen?_setCells];exact hfz _) (fun v hv=>h1c v (List.mem_of_mem_drop hv))
 obtain⟨W2,hW2⟩:∃ W2,W2=W1.drew.setCells b (off+(i+m)) (cs.drop j):=⟨_,rfl⟩
 have hS2:∀ t,t<j+d→(W2.cell? ⟨b,off+t,none⟩).isSome=true:=by rw[hW2];exact hS (i+m) _ W1.drew hS1 (by omega)
 have hclr:∀ ty cc,(Builtin.clear_ #[134] ty #[.slice (some ⟨b,off+(i+m+d),none⟩) (j+d-(i+m+d)) cc]).run Tryz.prog W2=.ok (.tuple #[]) (W2.setCells b (off+(i+m+d)) (List.replicate (j+d-(i+m+d)) (.pointer none))) :=
  fun ty cc=>Lib.run_clear_slice W2 _ _ ty _ t24 v3 v3c v3o b (off+(i+m+d)) _ _ (by omega) (fun t ht=>by rw[Nat.add_assoc];exact hS2 _ (by omega)) (fun t ht=>by rw[hW2,World.frozen?_setCells];show W1.frozen? _=_;rw[hW1,World.frozen?_setCells];exact hfz _)
 rw[← hW1] at hcp1 ⊢
 rw[← hW2] at hcp2 ⊢
 clear t24 hroom hW1 hW2 hS hS1 hS2 hsp hcs hvs h1c h1v hsz hi0 v3 v3c v3o
 go_enter Tryz.func104,Tryz.ntmps104
 go_wp2
 go_region_law_o fail
 all_goals (go_wp2;go_region_law_o (refine step_copy_runI rfl _ _ 134 134 rfl (.slice (some ⟨b,off+(i+m),none⟩) (i+m+d-(i+m)) (c-(i+m))) (.slice (some ⟨b,off+j,none⟩) d (c-j)) (by simp[Act.eval,Act.put]) (by simp[Act.eval,Act.put]) (hcp2 3 (c-(i+m)) (c-j)) ?_))
 all_goals go_wp2
 all_goals go_ret
 all_goals exact⟨rfl,rfl⟩
set_option maxHeartbeats 4000000 in
theorem replace_same (b off d c i j vb voff m vc:Nat) (cs vs:List Value) (w:World) (hij:i<j) (hd:0<d) (hm:0<m) (hnc:j+d≤c) (hroom:i+m=j) (hc63:c≤9223372036854775807) (hvb:vb≠b)
  (hcl:cs.length=j+d) (hvl:vs.length=m)
  (hcs:∀ j v,cs[j]? = some v→w.cell? ⟨b,off+j,none⟩=some v) (hfz:∀ j,w.frozen? ⟨b,j,none⟩=false)
  (hvs:∀ j v,vs[j]? = some v→w.cell? ⟨vb,voff+j,none⟩=some v) (h1c:∀ v∈cs,v.oneCell'=true) (h1v:∀ v∈vs,v.oneCell'=true) :
  Calls Tryz.prog 104 #[.slice (some ⟨b,off,none⟩) (j+d) c,.int .i64 i,.int .i64 j,.slice (some ⟨vb,voff,none⟩) m vc] w fun e w' =>
   e=.returned (.slice (some ⟨b,off,none⟩) (i+m+d) c)∧w'=((w.drew.setCells b (off+i) vs).drew).setCells b (off+(i+m)) (cs.drop j):=by
 have t24:=Tryz.underlying134
 have mixed:=Go.Proofs.YthjmjoioagocdaaGreatDoor.mixed
 obtain⟨i0,hi0,hz0,hzs,hzb⟩:=info_n
 obtain⟨v3,v3c,v3o⟩:=zero_n
 have hsz:(Tryz.prog.info? 125).map (·.size)=some 1:=by rw[hi0];simp[hzs]
 have hdl:(cs.drop j).length=d:=by rw[List.length_drop,hcl];omega
 have hsp:∀ t,t<j+d→(w.cell? ⟨b,off+t,none⟩).isSome=true:=fun t ht=>by rw[hcs t _ (List.getElem?_eq_getElem (by omega))];rfl
 have hS:∀ (o:Nat) (vs:List Value) (W:World),(∀ t,t<j+d→(W.cell? ⟨b,off+t,none⟩).isSome=true)→o+vs.length≤j+d→∀ t,t<j+d→((W.setCells b (off+o) vs).cell? ⟨b,off+t,none⟩).isSome=true:=fun o vs W hW ho t ht =>
  Go.Proofs.isSome_setCells b _ _ _ (fun x hx=>by rw[Nat.add_assoc];exact hW _ (by omega)) _ (hW t ht)
 have f1:¬ ((i:Int)=(j:Int)):=by omega
 have f2:¬ ((j:Int)=(j:Int)+(d:Int)):=by omega
 have f3:IntKind.i64.wrap ((i:Int)+(m:Int))=(i:Int)+(m:Int):=by rw[IntKind.wrap_i64];omega
 have f4:IntKind.i64.wrap ((i:Int)+(m:Int)+(d:Int))=(i:Int)+(m:Int)+(d:Int):=by rw[IntKind.wrap_i64];omega
 have f5:((i:Int)+(m:Int)).toNat=i+m:=by omega
 have f6:((i:Int)+(m:Int)+(d:Int)).toNat=i+m+d:=by omega
 have f9:(0:Int)≤(i:Int)+(m:Int):=by omega
 have f10:(0:Int)≤(i:Int)+(m:Int)+(d:Int):=by omega
 have q1:(j:Int)≤(j:Int)+(d:Int):=by omega
 have q2:(i:Int)≤(j:Int)+(d:Int):=by omega
 have q3:(i:Int)≤(i:Int)+(m:Int)+(d:Int):=by omega
 have q4:(i:Int)+(m:Int)≤(i:Int)+(m:Int)+(d:Int):=by omega
 have p1:i≤c:=by omega
 have p2:j≤c:=by omega
 have p3:i≤j:=by omega
 have p6:i≤i+m+d:=by omega
 have g1:¬ (c=i):=by omega
 have g2:¬ (c=j):=by omega
 have f7:¬ ((c:Int)<(i:Int)+(m:Int)+(d:Int)):=by omega
 have q6:(i:Int)+(m:Int)+(d:Int)≤(c:Int):=by omega
 have p4:i+m≤c:=by omega
 have p5:i+m+d≤c:=by omega
 have g3:¬ (c=i+m):=by omega
 have f8:(i:Int)+(m:Int)≤(j:Int):=by omega
 have q5:(i:Int)+(m:Int)+(d:Int)≤(j:Int)+(d:Int):=by omega
 have p7:i+m+d≤j+d:=by omega
 have p8:i+m≤j:=by omega
 have g4:j+d-(i+m+d)=0:=by omega
 have g5:j-(i+m)=0:=by omega
 have hcp1:∀ ty dc,(Builtin.copy_ #[134,134] ty #[.slice (some ⟨b,off+i,none⟩) (i+m+d-i) dc,.slice (some ⟨vb,voff,none⟩) m vc]).run Tryz.prog w.drew=.ok (goInt vs.length) (w.drew.setCells b (off+i) vs):=fun ty dc =>
  run_copy_cells w.drew _ _ ty 125 b (off+i) (i+m+d-i) dc ⟨vb,voff,none⟩ m vc vs t24 hsz (by rw[hvl];simp only[Nat.min_def];split<;>omega)
   (fun j v hj=>by rw[Addr.add_lit];exact hvs j v hj)
   (fun x hx=>by rw[Nat.add_assoc];exact hsp _ (by omega)) (fun x hx=>hfz _) h1v
 obtain⟨W1,hW1⟩:∃ W1,W1=w.drew.setCells b (off+i) vs:=⟨_,rfl⟩
 have hS1:∀ t,t<j+d→(W1.cell? ⟨b,off+t,none⟩).isSome=true:=by rw[hW1];exact hS i vs w.drew hsp (by omega)
 have hcp2:∀ ty dc sc,(Builtin.copy_ #[134,134] ty #[.slice (some ⟨b,off+(i+m),none⟩) (i+m+d-(i+m)) dc,.slice (some ⟨b,off+j,none⟩) d sc]).run Tryz.prog W1.drew=.ok (goInt (cs.drop j).length) (W1.drew.setCells b (off+(i+m)) (cs.drop j)):=fun ty dc sc =>
  run_copy_cells W1.drew _ _ ty 125 b (off+(i+m)) (i+m+d-(i+m)) dc ⟨b,off+j,none⟩ d sc (cs.drop j) t24 hsz (by rw[hdl];simp only[Nat.min_def];split<;>omega)
   (fun x v hx=>by
    rw[Addr.add_lit]
    show W1.cell? _=_
    rw[hW1,World.cell?_setCells_out b _ _ _ _ (fun _ _=>.inr (by show _≤off+j+x;omega)),Nat.add_assoc]
    exact hcs (j+x) v (by rwa [List.getElem?_drop] at hx))
   (fun x hx=>by rw[Nat.add_assoc];exact hS1 _ (by omega)) (fun x hx=>by show W1.frozen? _=_;rw[hW1,World.frozen?_setCells];exact hfz _) (fun v hv=>h1c v (List.mem_of_mem_drop hv))
 obtain⟨W2,hW2⟩:∃ W2,W2=W1.drew.setCells b (off+(i+m)) (cs.drop j):=⟨_,rfl⟩
 have hS2:∀ t,t<j+d→(W2.cell? ⟨b,off+t,none⟩).isSome=true:=by rw[hW2];exact hS (i+m) _ W1.drew hS1 (by omega)
 have hclr:∀ ty a cc,(Builtin.clear_ #[134] ty #[.slice a 0 cc]).run Tryz.prog W2=.ok (.tuple #[]) W2:=fun ty a cc=>run_clear_empty W2 _ _ ty t24 a cc
 rw[← hW1] at hcp1 ⊢
 rw[← hW2] at hcp2 ⊢
 clear t24 hroom hW1 hW2 hS hS1 hS2 hsp hcs hvs h1c h1v hsz hi0 v3 v3c v3o
 go_enter Tryz.func104,Tryz.ntmps104
 go_wp2
 go_region_law_o fail
 all_goals (go_wp2;go_region_law_o (refine step_copy_runI rfl _ _ 134 134 rfl (.slice (some ⟨b,off+(i+m),none⟩) (i+m+d-(i+m)) (c-(i+m))) (.slice (some ⟨b,off+j,none⟩) d (c-j)) (by simp[Act.eval,Act.put]) (by simp[Act.eval,Act.put]) (hcp2 3 (c-(i+m)) (c-j)) ?_))
 all_goals go_wp2
 all_goals go_ret
 all_goals exact⟨rfl,rfl⟩
end Go.Proofs.YthjmjoioagocdaaGreatDoor.TS
set_option maxRecDepth 1000000
namespace Go.Proofs.YthjmjoioagocdaaGreatDoor.TS
open Go.RowKit Go.Lib
set_option maxHeartbeats 4000000 in
theorem replace_right (b off d c i j vb voff m vc:Nat) (cs vs:List Value) (w:World) (hij:i<j) (hd:0<d) (hm:0<m) (hnc:j+d≤c) (hroom:j<i+m) (hfit:i+m+d≤c) (hc63:c≤9223372036854775807) (hvb:vb≠b)
  (hcl:cs.length=j+d) (hvl:vs.length=m)
  (hcs:∀ j v,cs[j]? = some v→w.cell? ⟨b,off+j,none⟩=some v) (hspa:∀ t,t<c→(w.cell? ⟨b,off+t,none⟩).isSome=true) (hfz:∀ j,w.frozen? ⟨b,j,none⟩=false)
  (hvs:∀ j v,vs[j]? = some v→w.cell? ⟨vb,voff+j,none⟩=some v) (h1c:∀ v∈cs,v.oneCell'=true) (h1v:∀ v∈vs,v.oneCell'=true)
  (tA tB:TypeId) (kA kB:Nat) (hsa:w.shape? vb=some (tA,kA)) (hsb:w.shape? b=some (tB,kB)) (hkA:kA≠0) :
  Calls Tryz.prog 104 #[.slice (some ⟨b,off,none⟩) (j+d) c,.int .i64 i,.int .i64 j,.slice (some ⟨vb,voff,none⟩) m vc] w fun e w' =>
   e=.returned (.slice (some ⟨b,off,none⟩) (i+m+d) c)∧w'=(w.drew.drew.setCells b (off+(i+m)) (cs.drop j)).setCells b (off+i) vs:=by
 have t24:=Tryz.underlying134
 have mixed:=Go.Proofs.YthjmjoioagocdaaGreatDoor.mixed
 obtain⟨i0,hi0,hz0,hzs,hzb⟩:=info_n
 obtain⟨v3,v3c,v3o⟩:=zero_n
 have hsz:(Tryz.prog.info? 125).map (·.size)=some 1:=by rw[hi0];simp[hzs]
 have hdl:(cs.drop j).length=d:=by rw[List.length_drop,hcl];omega
 have hsp:∀ t,t<c→(w.cell? ⟨b,off+t,none⟩).isSome=true:=hspa
 have hS:∀ (o:Nat) (vs:List Value) (W:World),(∀ t,t<c→(W.cell? ⟨b,off+t,none⟩).isSome=true)→o+vs.length≤c→∀ t,t<c→((W.setCells b (off+o) vs).cell? ⟨b,off+t,none⟩).isSome=true:=fun o vs W hW ho t ht =>
  Go.Proofs.isSome_setCells b _ _ _ (fun x hx=>by rw[Nat.add_assoc];exact hW _ (by omega)) _ (hW t ht)
 have f1:¬ ((i:Int)=(j:Int)):=by omega
 have f2:¬ ((j:Int)=(j:Int)+(d:Int)):=by omega
 have f3:IntKind.i64.wrap ((i:Int)+(m:Int))=(i:Int)+(m:Int):=by rw[IntKind.wrap_i64];omega
 have f4:IntKind.i64.wrap ((i:Int)+(m:Int)+(d:Int))=(i:Int)+(m:Int)+(d:Int):=by rw[IntKind.wrap_i64];omega
 have f5:((i:Int)+(m:Int)).toNat=i+m:=by omega
 have f6:((i:Int)+(m:Int)+(d:Int)).toNat=i+m+d:=by omega
 have f9:(0:Int)≤(i:Int)+(m:Int):=by omega
 have f10:(0:Int)≤(i:Int)+(m:Int)+(d:Int):=by omega
 have q1:(j:Int)≤(j:Int)+(d:Int):=by omega
 have q2:(i:Int)≤(j:Int)+(d:Int):=by omega
 have q3:(i:Int)≤(i:Int)+(m:Int)+(d:Int):=by omega
 have q4:(i:Int)+(m:Int)≤(i:Int)+(m:Int)+(d:Int):=by omega
 have p1:i≤c:=by omega
 have p2:j≤c:=by omega
 have p3:i≤j:=by omega
 have p6:i≤i+m+d:=by omega
 have g1:¬ (c=i):=by omega
 have g2:¬ (c=j):=by omega
 have f7:¬ ((c:Int)<(i:Int)+(m:Int)+(d:Int)):=by omega
 have q6:(i:Int)+(m:Int)+(d:Int)≤(c:Int):=by omega
 have p4:i+m≤c:=by omega
 have p5:i+m+d≤c:=by omega
 have g3:¬ (c=i+m):=by omega
 have f8:¬ ((i:Int)+(m:Int)≤(j:Int)):=by omega
 have f8':(j:Int)<(i:Int)+(m:Int):=by omega
 have hov:∀ lb cb,(callFunc 131 #[.slice (some ⟨b,off+(i+m),none⟩) lb cb,.slice (some ⟨vb,voff,none⟩) m vc]).run Tryz.prog w.drew=.ok (.value (.bool false)) w.drew:=fun lb cb=>by
  rw[run_callFunc_extern Tryz.func131 (by kernel_rfl) (by kernel_rfl) (by kernel_rfl) (e:=Extern.SlicesOverlaps.overlaps #[134,134] #[4]) (by kernel_rfl),
   run_overlaps_own' w.drew 134 4 125 t24 1 Tryz.sizeOf125 ⟨b,off+(i+m),none⟩ ⟨vb,voff,none⟩ lb cb m vc hvb tB tA kB kA hsb hsa hkA hfz (hfz _)]
  rfl
 have hcp1:∀ ty dc sc,(Builtin.copy_ #[134,134] ty #[.slice (some ⟨b,off+(i+m),none⟩) (i+m+d-(i+m)) dc,.slice (some ⟨b,off+j,none⟩) d sc]).run Tryz.prog w.drew.drew=.ok (goInt (cs.drop j).length) (w.drew.drew.setCells b (off+(i+m)) (cs.drop j)):=fun ty dc sc =>
  run_copy_cells w.drew.drew _ _ ty 125 b (off+(i+m)) (i+m+d-(i+m)) dc ⟨b,off+j,none⟩ d sc (cs.drop j) t24 hsz (by rw[hdl];simp only[Nat.min_def];split<;>omega)
   (fun x v hx=>by
    rw[Addr.add_lit]
    show w.cell? _=_
    rw[Nat.add_assoc]
    exact hcs (j+x) v (by rwa [List.getElem?_drop] at hx))
   (fun x hx=>by rw[Nat.add_assoc];exact hsp _ (by omega)) (fun x hx=>hfz _) (fun v hv=>h1c v (List.mem_of_mem_drop hv))
 obtain⟨W1,hW1⟩:∃ W1,W1=w.drew.drew.setCells b (off+(i+m)) (cs.drop j):=⟨_,rfl⟩
 have hS1:∀ t,t<c→(W1.cell? ⟨b,off+t,none⟩).isSome=true:=by rw[hW1];exact hS (i+m) _ w.drew.drew hsp (by omega)
 have hcp2:∀ ty dc,(Builtin.copy_ #[134,134] ty #[.slice (some ⟨b,off+i,none⟩) (i+m+d-i) dc,.slice (some ⟨vb,voff,none⟩) m vc]).run Tryz.prog W1=.ok (goInt vs.length) (W1.setCells b (off+i) vs):=fun ty dc =>
  run_copy_cells W1 _ _ ty 125 b (off+i) (i+m+d-i) dc ⟨vb,voff,none⟩ m vc vs t24 hsz (by rw[hvl];simp only[Nat.min_def];split<;>omega)
   (fun j v hj=>by rw[Addr.add_lit,hW1,World.cell?_setCells_out b _ _ _ _ (fun h _=>absurd h hvb)];exact hvs j v hj)
   (fun x hx=>by rw[Nat.add_assoc];exact hS1 _ (by omega)) (fun x hx=>by rw[hW1,World.frozen?_setCells];exact hfz _) h1v
 rw[← hW1] at hcp1 ⊢
 clear t24 hW1 hS hS1 hsp hspa hcs hvs h1c h1v hsz hi0 v3 v3c v3o
 go_enter Tryz.func104,Tryz.ntmps104
 go_wp2
 go_region_law_o fail
 all_goals (go_wp2_with (simp only[hov]))
 all_goals (go_region_law_o (refine step_copy_runI rfl _ _ 134 134 rfl (.slice (some ⟨b,off+(i+m),none⟩) (i+m+d-(i+m)) (c-(i+m))) (.slice (some ⟨b,off+j,none⟩) d (c-j)) (by simp[Act.eval,Act.put]) (by simp[Act.eval,Act.put]) (hcp1 3 (c-(i+m)) (c-j)) ?_))
 all_goals go_wp2
 all_goals go_ret
 all_goals exact⟨rfl,rfl⟩
end Go.Proofs.YthjmjoioagocdaaGreatDoor.TS
set_option maxRecDepth 1000000
namespace Go.Proofs.YthjmjoioagocdaaGreatDoor.TS
open Go.RowKit Go.Lib
set_option maxHeartbeats 4000000 in
theorem replace_end_less (b off c i j vb voff m vc:Nat) (cs vs:List Value) (w:World) (hij:i<j) (hm:0<m) (hnc:j≤c) (hroom:i+m<j) (hfit:i+m≤c) (hc63:c≤9223372036854775807) (hvb:vb≠b)
  (hcl:cs.length=j) (hvl:vs.length=m)
  (hcs:∀ j v,cs[j]? = some v→w.cell? ⟨b,off+j,none⟩=some v) (hspa:∀ t,t<c→(w.cell? ⟨b,off+t,none⟩).isSome=true) (hfz:∀ j,w.frozen? ⟨b,j,none⟩=false)
  (hvs:∀ j v,vs[j]? = some v→w.cell? ⟨vb,voff+j,none⟩=some v) (h1c:∀ v∈cs,v.oneCell'=true) (h1v:∀ v∈vs,v.oneCell'=true) :
  Calls Tryz.prog 104 #[.slice (some ⟨b,off,none⟩) j c,.int .i64 i,.int .i64 j,.slice (some ⟨vb,voff,none⟩) m vc] w fun e w' =>
   e=.returned (.slice (some ⟨b,off,none⟩) (i+m) c)∧w'=(w.setCells b (off+i * 1) vs).setCells b (off+(i+m)) (List.replicate (j-(i+m)) (.pointer none)):=by
 have t24:=Tryz.underlying134
 have mixed:=Go.Proofs.YthjmjoioagocdaaGreatDoor.mixed
 obtain⟨i0,hi0,hz0,hzs,hzb⟩:=info_n
 obtain⟨v3,v3c,v3o⟩:=zero_n
 have f1:¬ ((i:Int)=(j:Int)):=by omega
 have f3:IntKind.i64.wrap ((i:Int)+(m:Int))=(i:Int)+(m:Int):=by rw[IntKind.wrap_i64];omega
 have f5:((i:Int)+(m:Int)).toNat=i+m:=by omega
 have f9:(0:Int)≤(i:Int)+(m:Int):=by omega
 have p1:i≤c:=by omega
 have p3:i≤j:=by omega
 have g1:¬ (c=i):=by omega
 have f8:(i:Int)+(m:Int)<(j:Int):=by omega
 have p8:i+m≤j:=by omega
 have g3:¬ (c=i+m):=by omega
 have hrun:∀ ty,(Builtin.append_ #[134,134] ty #[.slice (some ⟨b,off,none⟩) i c,.slice (some ⟨vb,voff,none⟩) m vc]).run Tryz.prog w=.ok (.slice (some ⟨b,off,none⟩) (i+m) c) (w.setCells b (off+i * 1) vs):=fun ty=>by
  have h:=run_append_room_cells (P:=Tryz.prog) w 134 ty 125 i0 t24 hi0 b off i c ⟨vb,voff,none⟩ m vc vs (by rw[hzs];omega) (fun x u hx=>by rw[Addr.add_lit];exact hvs x u hx) h1v hfit (fun x hx=>by rw[hzs,show off+i * 1+x=off+(i+x) by omega];exact hspa _ (by omega)) (fun x hx=>hfz _)
  rwa [hzs] at h
 obtain⟨W1,hW1⟩:∃ W1,W1=w.setCells b (off+i * 1) vs:=⟨_,rfl⟩
 have hclr:∀ ty cc,(Builtin.clear_ #[134] ty #[.slice (some ⟨b,off+(i+m),none⟩) (j-(i+m)) cc]).run Tryz.prog W1=.ok (.tuple #[]) (W1.setCells b (off+(i+m)) (List.replicate (j-(i+m)) (.pointer none))) :=
  fun ty cc=>Lib.run_clear_slice W1 _ _ ty _ t24 v3 v3c v3o b (off+(i+m)) _ _ (by omega) (fun t ht=>by
   rw[hW1,Nat.add_assoc]
   exact Go.Proofs.isSome_setCells b _ _ _ (fun x hx=>by rw[show off+i * 1+x=off+(i+x) by omega];exact hspa _ (by omega)) _ (hspa _ (by omega))) (fun t ht=>by rw[hW1,World.frozen?_setCells];exact hfz _)
 rw[← hW1] at hrun ⊢
 clear t24 hW1 hspa hcs hvs h1c h1v hi0 v3 v3c v3o
 go_enter Tryz.func104,Tryz.ntmps104
 go_wp2_with (at_builtin;refine Lib.wpList_append_run _ rfl _ _ _ _ rfl _ _ rfl rfl _ _ (hrun _) ?_)
 all_goals go_ret
 all_goals exact⟨rfl,rfl⟩
set_option maxHeartbeats 4000000 in
theorem replace_end_full (b off c i j vb voff m vc:Nat) (cs vs:List Value) (w:World) (hij:i<j) (hm:0<m) (hnc:j≤c) (hroom:j≤i+m) (hfit:i+m≤c) (hc63:c≤9223372036854775807) (hvb:vb≠b)
  (hcl:cs.length=j) (hvl:vs.length=m)
  (hcs:∀ j v,cs[j]? = some v→w.cell? ⟨b,off+j,none⟩=some v) (hspa:∀ t,t<c→(w.cell? ⟨b,off+t,none⟩).isSome=true) (hfz:∀ j,w.frozen? ⟨b,j,none⟩=false)
  (hvs:∀ j v,vs[j]? = some v→w.cell? ⟨vb,voff+j,none⟩=some v) (h1c:∀ v∈cs,v.oneCell'=true) (h1v:∀ v∈vs,v.oneCell'=true) :
  Calls Tryz.prog 104 #[.slice (some ⟨b,off,none⟩) j c,.int .i64 i,.int .i64 j,.slice (some ⟨vb,voff,none⟩) m vc] w fun e w' =>
   e=.returned (.slice (some ⟨b,off,none⟩) (i+m) c)∧w'=w.setCells b (off+i * 1) vs:=by
 have t24:=Tryz.underlying134
 have mixed:=Go.Proofs.YthjmjoioagocdaaGreatDoor.mixed
 obtain⟨i0,hi0,hz0,hzs,hzb⟩:=info_n
 obtain⟨v3,v3c,v3o⟩:=zero_n
 have f1:¬ ((i:Int)=(j:Int)):=by omega
 have f3:IntKind.i64.wrap ((i:Int)+(m:Int))=(i:Int)+(m:Int):=by rw[IntKind.wrap_i64];omega
 have f5:((i:Int)+(m:Int)).toNat=i+m:=by omega
 have f9:(0:Int)≤(i:Int)+(m:Int):=by omega
 have p1:i≤c:=by omega
 have p3:i≤j:=by omega
 have g1:¬ (c=i):=by omega
 have f8:¬ ((i:Int)+(m:Int)<(j:Int)):=by omega
 have f8':(j:Int)≤(i:Int)+(m:Int):=by omega
 have hrun:∀ ty,(Builtin.append_ #[134,134] ty #[.slice (some ⟨b,off,none⟩) i c,.slice (some ⟨vb,voff,none⟩) m vc]).run Tryz.prog w=.ok (.slice (some ⟨b,off,none⟩) (i+m) c) (w.setCells b (off+i * 1) vs):=fun ty=>by
  have h:=run_append_room_cells (P:=Tryz.prog) w 134 ty 125 i0 t24 hi0 b off i c ⟨vb,voff,none⟩ m vc vs (by rw[hzs];omega) (fun x u hx=>by rw[Addr.add_lit];exact hvs x u hx) h1v hfit (fun x hx=>by rw[hzs,show off+i * 1+x=off+(i+x) by omega];exact hspa _ (by omega)) (fun x hx=>hfz _)
  rwa [hzs] at h
 obtain⟨W1,hW1⟩:∃ W1,W1=w.setCells b (off+i * 1) vs:=⟨_,rfl⟩
 rw[← hW1] at hrun ⊢
 clear t24 hW1 hspa hcs hvs h1c h1v hi0 v3 v3c v3o
 go_enter Tryz.func104,Tryz.ntmps104
 go_wp2_with (at_builtin;refine Lib.wpList_append_run _ rfl _ _ _ _ rfl _ _ rfl rfl _ _ (hrun _) ?_)
 all_goals go_ret
 all_goals exact⟨rfl,rfl⟩
set_option maxHeartbeats 4000000 in
theorem replace_end_grow (b off c i j vb voff m vc:Nat) (cs vs:List Value) (w:World) (hij:i<j) (hm:0<m) (hnc:j≤c) (hroom:c<i+m) (hbig:i+m≤1000000)
  (hcl:cs.length=j) (hvl:vs.length=m)
  (hcs:∀ j v,cs[j]? = some v→w.cell? ⟨b,off+j,none⟩=some v)
  (hvs:∀ j v,vs[j]? = some v→w.cell? ⟨vb,voff+j,none⟩=some v) (h1c:∀ v∈cs,v.oneCell'=true) (h1v:∀ v∈vs,v.oneCell'=true) :
  Calls Tryz.prog 104 #[.slice (some ⟨b,off,none⟩) j c,.int .i64 i,.int .i64 j,.slice (some ⟨vb,voff,none⟩) m vc] w fun e w' =>
   e=.returned (.slice (some ⟨w.heap.size,0,none⟩) (i+m) (grownCap w (i+m) c 125)) ∧
   w'=w.drew.alloc (.cells ((cs.take i++vs).toArray++Builtin.zeroCells (Value.cells (.pointer none)) (grownCap w (i+m) c 125-(i+m))) 125):=by
 have t24:=Tryz.underlying134
 have mixed:=Go.Proofs.YthjmjoioagocdaaGreatDoor.mixed
 obtain⟨i0,hi0,hz0,hzs,hzb⟩:=info_n
 have hby:(i+m) * i0.bytes≤140737488355328:=Nat.le_trans (Nat.mul_le_mul hbig hzb) (by decide)
 obtain⟨v3,v3c,v3o⟩:=zero_n
 have f1:¬ ((i:Int)=(j:Int)):=by omega
 have f3:IntKind.i64.wrap ((i:Int)+(m:Int))=(i:Int)+(m:Int):=by rw[IntKind.wrap_i64];omega
 have f5:((i:Int)+(m:Int)).toNat=i+m:=by omega
 have f9:(0:Int)≤(i:Int)+(m:Int):=by omega
 have p1:i≤c:=by omega
 have p3:i≤j:=by omega
 have g1:i<c:=by omega
 have f8:¬ ((i:Int)+(m:Int)<(j:Int)):=by omega
 have f8':(j:Int)≤(i:Int)+(m:Int):=by omega
 have hsrc:Src Tryz.prog i0.size 134 (.slice (some ⟨vb,voff,none⟩) m vc) m vs w:=by
  rw[hzs]
  exact Src.ofSlice w t24 ⟨vb,voff,none⟩ m vc vs (by omega) (fun j u hj=>by rw[Addr.add_lit];exact hvs j u hj) h1v
 have hold:(Builtin.firstCells i0.size i (.slice (some ⟨b,off,none⟩) i c)).run Tryz.prog w.drew=.ok (cs.take i).toArray w.drew:=by
  rw[hzs]
  exact run_firstCells_some w.drew 1 i ⟨b,off,none⟩ i c (cs.take i) (by rw[List.length_take];omega) (fun j v hj=>by
   rw[Addr.add_lit]
   rw[List.getElem?_take] at hj
   split at hj
   ·exact hcs j v hj
   ·cases hj)
 have hrun:∀ ty,(Builtin.append_ #[134,134] ty #[.slice (some ⟨b,off,none⟩) i c,.slice (some ⟨vb,voff,none⟩) m vc]).run Tryz.prog w=_:=fun ty =>
  run_append_grow_src w 134 134 ty 125 i0 _ t24 hi0 hz0 (some ⟨b,off,none⟩) i c (cs.take i) hold _ m vs hsrc hroom (by omega) (growslice_fits hroom hby)
 obtain⟨G,hG⟩:∃ G,G=grownCap w (i+m) c 125:=⟨_,rfl⟩
 obtain⟨W1,hW1⟩:∃ W1,W1=w.drew.alloc (.cells ((cs.take i++vs).toArray++Builtin.zeroCells (Value.cells (.pointer none)) (G-(i+m))) 125):=⟨_,rfl⟩
 rw[← hG] at hrun ⊢
 rw[← hW1] at hrun ⊢
 clear t24 hW1 hcs hvs h1c h1v hi0 v3 v3c v3o hG hold hsrc
 go_enter Tryz.func104,Tryz.ntmps104
 go_wp2_with (at_builtin;refine Lib.wpList_append_run _ rfl _ _ _ _ rfl _ _ rfl rfl _ _ (hrun _) ?_)
 all_goals go_ret
 all_goals exact⟨rfl,rfl⟩
end Go.Proofs.YthjmjoioagocdaaGreatDoor.TS
set_option maxRecDepth 1000000
namespace Go.Proofs.YthjmjoioagocdaaGreatDoor.TS
open Go.RowKit Go.Lib
set_option maxHeartbeats 4000000 in
theorem replace_grow (b off d c i j vb voff m vc:Nat) (cs vs:List Value) (w:World) (hij:i<j) (hd:0<d) (hm:0<m) (hnc:j+d≤c) (hroom:c<i+m+d) (hbig:i+m+d≤1000000)
  (hcl:cs.length=j+d) (hvl:vs.length=m)
  (hcs:∀ j v,cs[j]? = some v→w.cell? ⟨b,off+j,none⟩=some v)
  (hvs:∀ j v,vs[j]? = some v→w.cell? ⟨vb,voff+j,none⟩=some v) (h1c:∀ v∈cs,v.oneCell'=true) (h1v:∀ v∈vs,v.oneCell'=true) :
  Calls Tryz.prog 104 #[.slice (some ⟨b,off,none⟩) (j+d) c,.int .i64 i,.int .i64 j,.slice (some ⟨vb,voff,none⟩) m vc] w fun e w' =>
   e=.returned (.slice (some ⟨w.heap.size,0,none⟩) (i+m+d) (grownCap w.drew (i+m+d) c 125)) ∧
   w'=(((w.drew.drew.alloc (.cells ((cs.take i).toArray++Builtin.zeroCells (Value.cells (.pointer none)) (i+m+d-i)++Builtin.zeroCells (Value.cells (.pointer none)) (grownCap w.drew (i+m+d) c 125-(i+m+d))) 125)).setCells w.heap.size i vs).drew).setCells w.heap.size (i+m) (cs.drop j):=by
 have t24:=Tryz.underlying134
 have mixed:=Go.Proofs.YthjmjoioagocdaaGreatDoor.mixed
 obtain⟨i0,hi0,hz0,hzs,hzb⟩:=info_n
 have hby:(i+m+d) * i0.bytes≤140737488355328:=Nat.le_trans (Nat.mul_le_mul hbig hzb) (by decide)
 have hsz:(Tryz.prog.info? 125).map (·.size)=some 1:=by rw[hi0];simp[hzs]
 have hdl:(cs.drop j).length=d:=by rw[List.length_drop,hcl];omega
 have f1:¬ ((i:Int)=(j:Int)):=by omega
 have f2:¬ ((j:Int)=(j:Int)+(d:Int)):=by omega
 have f3:IntKind.i64.wrap ((i:Int)+(m:Int))=(i:Int)+(m:Int):=by rw[IntKind.wrap_i64];omega
 have f4:IntKind.i64.wrap ((i:Int)+(m:Int)+(d:Int))=(i:Int)+(m:Int)+(d:Int):=by rw[IntKind.wrap_i64];omega
 have f5:((i:Int)+(m:Int)).toNat=i+m:=by omega
 have f6:((i:Int)+(m:Int)+(d:Int)).toNat=i+m+d:=by omega
 have f9:(0:Int)≤(i:Int)+(m:Int):=by omega
 have f10:(0:Int)≤(i:Int)+(m:Int)+(d:Int):=by omega
 have q1:(j:Int)≤(j:Int)+(d:Int):=by omega
 have q2:(i:Int)≤(j:Int)+(d:Int):=by omega
 have q3:(i:Int)≤(i:Int)+(m:Int)+(d:Int):=by omega
 have q4:(i:Int)+(m:Int)≤(i:Int)+(m:Int)+(d:Int):=by omega
 have p1:i≤c:=by omega
 have p2:j≤c:=by omega
 have p3:i≤j:=by omega
 have p6:i≤i+m+d:=by omega
 have g1:¬ (c=i):=by omega
 have g2:¬ (c=j):=by omega
 have f7:(c:Int)<(i:Int)+(m:Int)+(d:Int):=by omega
 have f11:IntKind.i64.wrap ((i:Int)+(m:Int)+(d:Int)-(i:Int))=(i:Int)+(m:Int)+(d:Int)-(i:Int):=by rw[IntKind.wrap_i64];omega
 have hbw:b<w.heap.size:=block_lt_of_cell (hcs 0 _ (List.getElem?_eq_getElem (by omega)))
 have hvw:vb<w.heap.size:=block_lt_of_cell (hvs 0 _ (List.getElem?_eq_getElem (by omega)))
 have hkk:(i:Int)+(m:Int)+(d:Int)-(i:Int)=((i+m+d-i:Nat):Int):=by omega
 have hik:i+(i+m+d-i)=i+m+d:=by omega
 have hold:(Builtin.firstCells i0.size i (.slice (some ⟨b,off,none⟩) i c)).run Tryz.prog w.drew.drew=.ok (cs.take i).toArray w.drew.drew:=by
  rw[hzs]
  exact run_firstCells_some w.drew.drew 1 i ⟨b,off,none⟩ i c (cs.take i) (by rw[List.length_take];omega) (fun j v hj=>by
   rw[Addr.add_lit]
   rw[List.getElem?_take] at hj
   split at hj
   ·exact hcs j v hj
   ·cases hj)
 have hrz:∀ ty,(Builtin.append_ #[134,3] ty #[.slice (some ⟨b,off,none⟩) i c,.int .i64 ((i:Int)+(m:Int)+(d:Int)-(i:Int))]).run Tryz.prog w.drew =
   .ok (.slice (some ⟨w.heap.size,0,none⟩) (i+m+d) (grownCap w.drew (i+m+d) c 125)) (w.drew.drew.alloc (.cells ((cs.take i).toArray++Builtin.zeroCells (Value.cells (.pointer none)) (i+m+d-i)++Builtin.zeroCells (Value.cells (.pointer none)) (grownCap w.drew (i+m+d) c 125-(i+m+d))) 125)):=fun ty=>by
  have h:=Lib.run_append_grow_zeros w.drew 134 3 ty 125 i0 _ .i64 .i64 t24 Tryz.underlying3 hi0 hz0 (some ⟨b,off,none⟩) i c (cs.take i) hold (i+m+d-i) (by omega) (by omega) (by omega) (by omega) (by have:(i+m+d-i) * i0.bytes≤(i+m+d) * i0.bytes:=Nat.mul_le_mul_right _ (by omega);omega) (by rw[hik];exact growslice_fits hroom hby)
  rw[hik] at h
  rw[hkk]
  exact h
 obtain⟨G,hG⟩:∃ G,G=grownCap w.drew (i+m+d) c 125:=⟨_,rfl⟩
 rw[← hG] at hrz ⊢
 obtain⟨ROW,hROW⟩:∃ ROW:Array Value,ROW=(cs.take i).toArray++Builtin.zeroCells (Value.cells (.pointer none)) (i+m+d-i)++Builtin.zeroCells (Value.cells (.pointer none)) (G-(i+m+d)):=⟨_,rfl⟩
 rw[← hROW] at hrz ⊢
 have hRl:i+m+d≤ROW.size:=by
  rw[hROW]
  simp[Builtin.zeroCells,Value.cells]
  omega
 obtain⟨W1,hW1⟩:∃ W1,W1=w.drew.drew.alloc (.cells ROW 125):=⟨_,rfl⟩
 rw[← hW1] at hrz ⊢
 have hN:∀ j,j<i+m+d→(W1.cell? ⟨w.heap.size,j,none⟩).isSome=true:=fun j hj=>by
  rw[hW1,World.cell?_alloc_at (w:=w.drew.drew) ROW _ w.heap.size j rfl,Array.getElem?_eq_getElem (by omega)];rfl
 have hNf:∀ j,W1.frozen? ⟨w.heap.size,j,none⟩=false:=fun j=>by rw[hW1];exact World.frozen?_alloc_at (w:=w.drew.drew) ROW _ w.heap.size j rfl
 have hOb:∀ j v,w.cell? ⟨b,j,none⟩=some v→W1.cell? ⟨b,j,none⟩=some v:=fun j v h=>by rw[hW1,World.cell?_alloc_past (w:=w.drew.drew) _ b j hbw];exact h
 have hOv:∀ j v,w.cell? ⟨vb,j,none⟩=some v→W1.cell? ⟨vb,j,none⟩=some v:=fun j v h=>by rw[hW1,World.cell?_alloc_past (w:=w.drew.drew) _ vb j hvw];exact h
 have hcpA:∀ ty dc,(Builtin.copy_ #[134,134] ty #[.slice (some ⟨w.heap.size,i,none⟩) (i+m+d-i) dc,.slice (some ⟨vb,voff,none⟩) m vc]).run Tryz.prog W1=.ok (goInt vs.length) (W1.setCells w.heap.size i vs):=fun ty dc =>
  run_copy_cells W1 _ _ ty 125 w.heap.size i (i+m+d-i) dc ⟨vb,voff,none⟩ m vc vs t24 hsz (by rw[hvl];simp only[Nat.min_def];split<;>omega)
   (fun j v hj=>by rw[Addr.add_lit];exact hOv _ v (hvs j v hj))
   (fun j hj=>hN _ (by omega)) (fun j hj=>hNf _) h1v
 have hGn:i+m+d≤G:=by rw[hG];exact grownCap_ge w.drew _ _ _
 have hG63:G≤9223372036854775807:=by
  have:=grownCap_le_maxLen w.drew (i+m+d) c 125 (by unfold maxLen;omega)
  rw[← hG] at this
  unfold maxLen at this
  omega
 have hGi:¬ (G=i):=by omega
 have hGim:¬ (G=i+m):=by omega
 have hGi1:i≤G:=by omega
 have hGi2:i+m≤G:=by omega
 have hbN:b≠w.heap.size:=by omega
 obtain⟨W2,hW2⟩:∃ W2,W2=W1.setCells w.heap.size i vs:=⟨_,rfl⟩
 rw[← hW2] at hcpA ⊢
 have hcpB:∀ ty dc sc,(Builtin.copy_ #[134,134] ty #[.slice (some ⟨w.heap.size,i+m,none⟩) (i+m+d-(i+m)) dc,.slice (some ⟨b,off+j,none⟩) d sc]).run Tryz.prog W2.drew=.ok (goInt (cs.drop j).length) (W2.drew.setCells w.heap.size (i+m) (cs.drop j)):=fun ty dc sc =>
  run_copy_cells W2.drew _ _ ty 125 w.heap.size (i+m) (i+m+d-(i+m)) dc ⟨b,off+j,none⟩ d sc (cs.drop j) t24 hsz (by rw[hdl];simp only[Nat.min_def];split<;>omega)
   (fun x v hx=>by
    rw[Addr.add_lit]
    show W2.cell? _=_
    rw[hW2,World.cell?_setCells_out _ _ _ _ _ (fun h _=>absurd h hbN),Nat.add_assoc]
    exact hOb _ v (hcs (j+x) v (by rwa [List.getElem?_drop] at hx)))
   (fun x hx=>by show (W2.cell? _).isSome=true;rw[hW2];exact Go.Proofs.isSome_setCells _ _ _ _ (fun t ht=>hN _ (by omega)) _ (hN _ (by omega)))
   (fun x hx=>by show W2.frozen? _=_;rw[hW2,World.frozen?_setCells];exact hNf _) (fun v hv=>h1c v (List.mem_of_mem_drop hv))
 clear hkk hik hold hROW hG hRl t24 hW1 hW2 hN hNf hOb hOv hcs hvs h1c h1v hsz hi0
 go_enter Tryz.func104,Tryz.ntmps104
 go_wp2
 go_region_law_o fail
 all_goals go_wp2_with (at_builtin;refine Lib.wpList_append_run _ rfl _ _ _ _ rfl _ _ rfl rfl _ _ (hrz _) ?_)
 all_goals go_region_law_o (refine step_copy_runI rfl _ _ 134 134 rfl (.slice (some ⟨w.heap.size,i+m,none⟩) (i+m+d-(i+m)) (G-(i+m))) (.slice (some ⟨b,off+j,none⟩) d (c-j)) (by simp[Act.eval,Act.put]) (by simp[Act.eval,Act.put]) (hcpB 3 (G-(i+m)) (c-j)) ?_)
 all_goals go_wp2
 all_goals go_ret
 all_goals exact⟨rfl,rfl⟩
end Go.Proofs.YthjmjoioagocdaaGreatDoor.TS
set_option maxRecDepth 1000000
namespace Go.Proofs.YthjmjoioagocdaaGreatDoor.TS
open Go.RowKit Go.Lib
theorem cell_set {W:World}{b o k:Nat}{vs:List Value}(hs:Sized W b k)(h:o+vs.length≤k)(t:Nat):(W.setCells b o vs).cell? ⟨b,t,none⟩=if o≤t∧t<o+vs.length then vs[t-o]? else W.cell? ⟨b,t,none⟩:=by
 by_cases ht:o≤t∧t<o+vs.length
 ·rw[if_pos ht]
  obtain⟨q,rfl⟩:∃ q,t=o+q:=⟨t-o,by omega⟩
  rw[World.cell?_setCells_in b vs o W (fun x hx=>sized_some hs (by omega)) q (by omega),Nat.add_sub_cancel_left,List.getElem?_eq_getElem (by omega)]
 ·rw[if_neg ht]
  exact World.cell?_setCells_out b _ _ _ _ (fun _ _=>by show t<o∨o+vs.length≤t;omega)
theorem tri_get (A B C:List Value)(t:Nat):(A++B++C)[t]? = if t<A.length then A[t]? else if t<A.length+B.length then B[t-A.length]? else C[t-(A.length+B.length)]? := by
 by_cases h1:t<A.length
 ·rw[if_pos h1,List.append_assoc,List.getElem?_append_left h1]
 ·by_cases h2:t<A.length+B.length
  ·rw[if_neg h1,if_pos h2,List.append_assoc,List.getElem?_append_right (by omega),List.getElem?_append_left (by omega)]
  ·rw[if_neg h1,if_neg h2,List.getElem?_append_right (by simp;omega),List.length_append]
theorem rep_row {w:World}{b:Nat}{e:TypeId}{arr us:List Value}{i j:Nat}(hr:RowP w b e arr)(hij:i≤j)(hj:j≤arr.length){w':World}(hU:Upd b w w')
  (h1:∀ t,t<i→w'.cell? ⟨b,t,none⟩=w.cell? ⟨b,t,none⟩) (h2:∀ t,t<us.length→w'.cell? ⟨b,i+t,none⟩=us[t]?) (h3:∀ t,t<arr.length-j→w'.cell? ⟨b,i+us.length+t,none⟩=arr[j+t]?):RowP w' b e (arr.take i++us++arr.drop j):=by
 refine hU.rowP hr fun t u hu=>?_
 rw[tri_get] at hu
 have htk:(arr.take i).length=i:=by simp;omega
 simp only[htk] at hu
 by_cases c1:t<i
 ·rw[if_pos c1,List.getElem?_take,if_pos c1] at hu
  rw[h1 t c1]
  exact hr.cell hu
 ·rw[if_neg c1] at hu
  by_cases c2:t<i+us.length
  ·rw[if_pos c2] at hu
   have:=h2 (t-i) (by omega)
   rw[show i+(t-i)=t by omega] at this
   rw[this,hu]
  ·rw[if_neg c2,List.getElem?_drop] at hu
   have hlt:=(List.getElem?_eq_some_iff.1 hu).1
   have:=h3 (t-(i+us.length)) (by omega)
   rw[show i+us.length+(t-(i+us.length))=t by omega] at this
   rw[this,hu]
theorem clr_row {w:World}{b:Nat}{e:TypeId}{l:List Value}(h:RowP w b e l){o:Nat}(ho:l.length≤o)(rest:List Value):RowP (w.setCells b o rest) b e l :=
 (Upd.setCells b rest o w).rowP h fun t u hu=>by
  have:=(List.getElem?_eq_some_iff.1 hu).1
  rw[World.cell?_setCells_out b _ _ _ _ (fun _ _=>.inl (by show t<_;omega))]
  exact h.cell hu
theorem rep_left_row {w:World}{b:Nat}{e:TypeId}{arr us:List Value}{c i j:Nat}(hr:RowP w b e arr)(hs:Sized w b (c * 1))(hij:i≤j)(hj:j≤arr.length)(hc:arr.length≤c)(hm:i+us.length≤j):RowP (((w.drew.setCells b (0+i) us).drew).setCells b (0+(i+us.length)) (arr.drop j)) b e (arr.take i++us++arr.drop j):=by
 have s1:Sized w.drew b (c * 1):=hs
 have hU1:Upd b w ((w.drew.setCells b (0+i) us).drew):=(((Upd.refl b w).drew).step _ _).drew
 have s2:Sized (w.drew.setCells b (0+i) us).drew b (c * 1):=hU1.sized hs
 have hd:(arr.drop j).length=arr.length-j:=by simp
 have g1:∀ t,(w.drew.setCells b (0+i) us).drew.cell? ⟨b,t,none⟩=if 0+i≤t∧t<0+i+us.length then us[t-(0+i)]? else w.cell? ⟨b,t,none⟩:=fun t=>cell_set s1 (by omega) t
 refine rep_row hr hij hj (hU1.step _ _) (fun t ht=>?_) (fun t ht=>?_) (fun t ht=>?_)
 ·rw[cell_set s2 (by omega),if_neg (by omega),g1,if_neg (by omega)]
 ·rw[cell_set s2 (by omega),if_neg (by omega),g1,if_pos (by omega),show i+t-(0+i)=t by omega]
 ·rw[cell_set s2 (by omega),if_pos (by omega),List.getElem?_drop,show i+us.length+t-(0+(i+us.length))=t by omega]
theorem rep_right_row {w:World}{b:Nat}{e:TypeId}{arr us:List Value}{c i j:Nat}(hr:RowP w b e arr)(hs:Sized w b (c * 1))(hij:i≤j)(hj:j≤arr.length)(hfit:i+us.length+(arr.length-j)≤c):RowP ((w.drew.drew.setCells b (0+(i+us.length)) (arr.drop j)).setCells b (0+i) us) b e (arr.take i++us++arr.drop j):=by
 have s1:Sized w.drew.drew b (c * 1):=hs
 have hU1:Upd b w (w.drew.drew.setCells b (0+(i+us.length)) (arr.drop j)):=(((Upd.refl b w).drew).drew).step _ _
 have s2:=hU1.sized hs
 have hd:(arr.drop j).length=arr.length-j:=by simp
 have g1:∀ t,(w.drew.drew.setCells b (0+(i+us.length)) (arr.drop j)).cell? ⟨b,t,none⟩=if 0+(i+us.length)≤t∧t<0+(i+us.length)+(arr.drop j).length then (arr.drop j)[t-(0+(i+us.length))]? else w.cell? ⟨b,t,none⟩:=fun t=>cell_set s1 (by omega) t
 refine rep_row hr hij hj (hU1.step _ _) (fun t ht=>?_) (fun t ht=>?_) (fun t ht=>?_)
 ·rw[cell_set s2 (by omega),if_neg (by omega),g1,if_neg (by omega)]
 ·rw[cell_set s2 (by omega),if_pos (by omega),show i+t-(0+i)=t by omega]
 ·rw[cell_set s2 (by omega),if_neg (by omega),g1,if_pos (by omega),List.getElem?_drop,show i+us.length+t-(0+(i+us.length))=t by omega]
theorem rep_end_row {w:World}{b:Nat}{e:TypeId}{arr us:List Value}{c i:Nat}(hr:RowP w b e arr)(hs:Sized w b (c * 1))(hi:i≤arr.length)(hfit:i+us.length≤c):RowP (w.setCells b (0+i * 1) us) b e (arr.take i++us++arr.drop arr.length):=by
 refine rep_row hr hi (Nat.le_refl _) ((Upd.refl b w).step _ _) (fun t ht=>?_) (fun t ht=>?_) (fun t ht=>by omega)
 ·rw[cell_set hs (by omega),if_neg (by omega)]
 ·rw[cell_set hs (by omega),if_pos (by omega),show i+t-(0+i * 1)=t by omega]
theorem rep_grow_row {w:World}{N:Nat}(hN:N=w.heap.size){arr us:List Value}{E:TypeId}{i j:Nat}(hij:i≤j)(hj:j≤arr.length)(A B:Array Value)(hA:A.size=us.length+(arr.length-j)) :
  RowP ((((w.drew.drew.alloc (.cells ((arr.take i).toArray++A++B) E)).setCells N i us).drew).setCells N (i+us.length) (arr.drop j)) N E (arr.take i++us++arr.drop j) ∧
  Upd N (w.drew.drew.alloc (.cells ((arr.take i).toArray++A++B) E)) ((((w.drew.drew.alloc (.cells ((arr.take i).toArray++A++B) E)).setCells N i us).drew).setCells N (i+us.length) (arr.drop j))∧(w.drew.drew.alloc (.cells ((arr.take i).toArray++A++B) E)).heap[N]? = some (.cells ((arr.take i).toArray++A++B) E (0,0)):=by
 subst hN
 have htk:(arr.take i).length=i:=by simp;omega
 have hd:(arr.drop j).length=arr.length-j:=by simp
 obtain⟨row,hrow⟩:∃ row,row=(arr.take i).toArray++A++B:=⟨_,rfl⟩
 have hsz:row.size=i+(us.length+(arr.length-j))+B.size:=by rw[hrow];simp[hA];omega
 have hr:∀ t,t<i→row[t]? = arr[t]? := fun t ht=>by
  rw[hrow,Array.append_assoc,Array.getElem?_append_left (by simp;omega)]
  rw[show (arr.take i).toArray[t]? = (arr.take i)[t]? from List.getElem?_toArray,List.getElem?_take,if_pos ht]
 rw[← hrow]
 have h0:(w.drew.drew.alloc (.cells row E)).heap[w.heap.size]? = some (.cells row E (0,0)):=heap_alloc_new w.drew.drew _
 have s0:Sized (w.drew.drew.alloc (.cells row E)) w.heap.size row.size:=⟨_,_,h0,Nat.le_refl _⟩
 have hU1:Upd w.heap.size (w.drew.drew.alloc (.cells row E)) (((w.drew.drew.alloc (.cells row E)).setCells w.heap.size i us).drew):=((Upd.refl _ _).step _ _).drew
 have s1:=hU1.sized s0
 have g1:∀ t,(((w.drew.drew.alloc (.cells row E)).setCells w.heap.size i us).drew).cell? ⟨w.heap.size,t,none⟩=if i≤t∧t<i+us.length then us[t-i]? else (w.drew.drew.alloc (.cells row E)).cell? ⟨w.heap.size,t,none⟩:=fun t=>cell_set s0 (by omega) t
 have hU:=hU1.step (i+us.length) (arr.drop j)
 obtain⟨c,k1,k2⟩:=hU.row _ _ _ h0
 refine⟨rowP_cells k1 fun t u hu=>?_,hU,h0⟩
 rw[tri_get] at hu
 simp only[htk] at hu
 rw[cell_set s1 (by omega)]
 by_cases c1:t<i
 ·rw[if_pos c1,List.getElem?_take,if_pos c1] at hu
  rw[if_neg (by omega),g1,if_neg (by omega),cell_of_row _ _ _ row E (0,0) h0,hr t c1,hu]
 ·rw[if_neg c1] at hu
  by_cases c2:t<i+us.length
  ·rw[if_pos c2] at hu
   rw[if_neg (by omega),g1,if_pos (by omega),hu]
  ·rw[if_neg c2] at hu
   have hlt:=(List.getElem?_eq_some_iff.1 hu).1
   rw[if_pos (by omega),hu]
def p_replace:CFn:=⟨fun sz n cells xs kk=>match xs with|[.int .i64 i,.int .i64 j,.sl _ 1 m vs]=>bif decide (sz=1)&&(decide (cells.length=n)&&(decide (0≤i)&&(decide (i<j)&&(decide (j≤n)&&(decide (0<m)&&decide (n+m≤1000000)))))) then kk (i.toNat+m+(n-j.toNat)) (cells.take i.toNat++vs++cells.drop j.toNat) else none|_=>none⟩
set_option maxHeartbeats 4000000 in
theorem cok_replace {NG:Nat} {W:World→Prop}:COK NG W 104 p_replace where
 nat := by
  intro R sz n cells xs kk
  simp only[p_replace]
  split
  ·rename_i i j _ m vs
   rcases (decide (sz=1)&&(decide (cells.length=n)&&(decide (0≤i)&&(decide (i<j)&&(decide (j≤n)&&(decide (0<m)&&decide (n+m≤1000000))))))) with _|_<;>rfl
  ·rfl
 call := by
  intro M b c e arr sz n cells xs vs n' cells' hW hng hG hrow hr hU hNG hnc hcm hsz hrT h
  simp only[p_replace] at h
  split at h
  ·rename_i i j nl m ws
   rcases hb:(decide (sz=1)&&(decide (cells.length=n)&&(decide (0≤i)&&(decide (i<j)&&(decide (j≤n)&&(decide (0<m)&&decide (n+m≤1000000))))))) with _|_<;>rw[hb] at h
   ·cases h
   simp only[cond_true,Option.some.injEq,Prod.mk.injEq] at h
   obtain⟨rfl,rfl⟩:=h
   simp only[Bool.and_eq_true,decide_eq_true_eq] at hb
   obtain⟨b1,b2,b3,b4,b5,b6,b7⟩:=hb
   obtain⟨u1,u2,u3,rfl,g1,g2,g3⟩:=relT3 hrT
   simp only[RelD] at g1 g2 g3
   subst g1 g2
   obtain⟨A,vc,us,rfl,j1,j2,j3,j4,j5,j6,j7⟩:=g3
   have hul:us.length=m:=by rw[← j6.length,j5];omega
   obtain rfl|⟨vb,voff,rfl,hat⟩:=j7
   ·simp at hul;omega
   obtain⟨i,rfl⟩:∃ m:Nat,i=(m:Int):=⟨i.toNat,by omega⟩
   obtain⟨j,rfl⟩:∃ m:Nat,j=(m:Int):=⟨j.toNat,by omega⟩
   have hl:arr.length=n:=by rw[← hr.length,b2]
   have hij:i<j:=by omega
   have hjn:j≤n:=by omega
   obtain⟨d,rfl⟩:∃ d,n=j+d:=⟨n-j,by omega⟩
   subst b1
   simp only[Int.toNat_natCast,Nat.add_sub_cancel_left]
   have hvs:∀ j v,us[j]? = some v→M.w.cell? ⟨vb,voff+j,none⟩=some v:=fun j v hj=>(hat j v hj).1
   obtain⟨u0,hu0⟩:∃ u,us[0]? = some u:=⟨_,List.getElem?_eq_getElem (by omega)⟩
   have hvb:vb≠b:=by
    rintro rfl
    have:=(hat 0 u0 hu0).2
    omega
   have hcs:∀ j v,arr[j]? = some v→M.w.cell? ⟨b,0+j,none⟩=some v:=fun j v hj=>by rw[Nat.zero_add];exact hrow.cell hj
   obtain⟨tA,kA,hsa,hkA⟩:=shape_cell (hvs 0 u0 hu0)
   obtain⟨tB,kB,hsb⟩:∃ t k,M.w.shape? b=some (t,k):=by
    obtain⟨cur,e',h1,_⟩:=hsz
    exact⟨e',cur.size,by simp[World.shape?,h1]⟩
   have hc63:c≤9223372036854775807:=by unfold maxLen at hcm;omega
   have hent:∀ vs,(callFunc 104 vs).run Tryz.prog M.w=.ok (.enter 104 vs) M.w:=fun vs=>by
    simp[callFunc,Tryz.func104]
    rw[if_neg (by decide),if_neg (by decide)]
   refine .inr ⟨hent _,?_⟩
   have hfz:∀ j,M.w.frozen? ⟨b,j,none⟩=false:=fun j=>sized_fz hsz _
   have hsp:∀ t,t<c→(M.w.cell? ⟨b,0+t,none⟩).isSome=true:=fun t ht=>sized_some hsz (by omega)
   have hrel:∀ {M':Mem},M.le M'→RelL M' (cells.take i++ws++cells.drop j) (arr.take i++us++arr.drop j):=fun hm=>(((hr.take i).append j6).append (hr.drop j)).mono hm
   by_cases hd:0<d
   ·by_cases hfit:i+m+d≤c
    ·rcases Nat.lt_trichotomy (i+m) j with hlt|heq|hgt
     ·refine (replace_left b 0 d c i j vb voff m vc arr us M.w hij hd b6 hnc hlt hc63 hvb hl hul hcs hfz hvs hr.one j6.one).mono ?_
      rintro e' w' ⟨rfl,rfl⟩
      subst hul
      have hU':Upd b M.w ((((M.w.drew.setCells b (0+i) us).drew).setCells b (0+(i+us.length)) (arr.drop j)).setCells b (0+(i+us.length+d)) (List.replicate (j+d-(i+us.length+d)) (.pointer none))):=(((((Upd.refl b M.w).drew).step _ _).drew).step _ _).step _ _
      have hm:=hU'.move hU
      exact⟨_,rfl,M.U,hm,b,c,e,_,rfl,.inl rfl,clr_row (rep_left_row hrow hsz (by omega) (by omega) (by omega) (by omega)) (by simp[hl];omega) _,hrel hm.le,hU,hfit,hcm,hU'.sized hsz⟩
     ·refine (replace_same b 0 d c i j vb voff m vc arr us M.w hij hd b6 hnc heq hc63 hvb hl hul hcs hfz hvs hr.one j6.one).mono ?_
      rintro e' w' ⟨rfl,rfl⟩
      subst hul
      have hU':Upd b M.w (((M.w.drew.setCells b (0+i) us).drew).setCells b (0+(i+us.length)) (arr.drop j)):=((((Upd.refl b M.w).drew).step _ _).drew).step _ _
      have hm:=hU'.move hU
      exact⟨_,rfl,M.U,hm,b,c,e,_,rfl,.inl rfl,rep_left_row hrow hsz (by omega) (by omega) (by omega) (by omega),hrel hm.le,hU,hfit,hcm,hU'.sized hsz⟩
     ·refine (replace_right b 0 d c i j vb voff m vc arr us M.w hij hd b6 hnc hgt hfit hc63 hvb hl hul hcs hsp hfz hvs hr.one j6.one tA tB kA kB hsa hsb hkA).mono ?_
      rintro e' w' ⟨rfl,rfl⟩
      subst hul
      have hU':Upd b M.w ((M.w.drew.drew.setCells b (0+(i+us.length)) (arr.drop j)).setCells b (0+i) us):=((((Upd.refl b M.w).drew).drew).step _ _).step _ _
      have hm:=hU'.move hU
      exact⟨_,rfl,M.U,hm,b,c,e,_,rfl,.inl rfl,rep_right_row hrow hsz (by omega) (by omega) (by omega),hrel hm.le,hU,hfit,hcm,hU'.sized hsz⟩
    ·have hGn:i+m+d≤grownCap M.w.drew (i+m+d) c 125:=grownCap_ge M.w.drew _ _ _
     have hGm:grownCap M.w.drew (i+m+d) c 125≤maxLen:=grownCap_le_maxLen M.w.drew (i+m+d) c 125 (by unfold maxLen;omega)
     obtain⟨G,hG⟩:∃ G,G=grownCap M.w.drew (i+m+d) c 125:=⟨_,rfl⟩
     refine (replace_grow b 0 d c i j vb voff m vc arr us M.w hij hd b6 hnc (by omega) (by omega) hl hul hcs hvs hr.one j6.one).mono ?_
     rintro e' w' ⟨rfl,rfl⟩
     rw[← hG] at hGn hGm ⊢
     subst hul
     have hz1:(Builtin.zeroCells (Value.cells (.pointer none)) (i+us.length+d-i)).size=us.length+(arr.length-j):=by rw[zeroCells_one _ (by decide)];omega
     obtain⟨q1,q2,q3⟩:=rep_grow_row (w:=M.w) rfl (us:=us) (E:=125) (Nat.le_of_lt hij) (show j≤arr.length by omega) (Builtin.zeroCells (Value.cells (.pointer none)) (i+us.length+d-i)) (Builtin.zeroCells (Value.cells (.pointer none)) (G-(i+us.length+d))) hz1
     have hm:=new_move (M:=M) (((Below.refl _ M.w).drew.drew.alloc (Nat.le_refl _) _).trans (q2.below (Nat.le_refl _)))
     refine⟨_,rfl,_,hm.wide b,M.w.heap.size,G,_,_,rfl,.inr (Nat.le_refl _),q1,hrel hm.le,by simp,hGn,hGm,q2.sized ⟨_,_,q3,?_⟩⟩
     simp only[Array.size_append,hz1,zeroCells_one _ (show (Value.cells (.pointer none)).size=1 by decide),List.size_toArray,List.length_take]
     omega
   ·obtain rfl:d=0:=by omega
    have hl0:arr.length=j:=by omega
    by_cases hfit:i+m≤c
    ·by_cases hlt:i+m<j
     ·refine (replace_end_less b 0 c i j vb voff m vc arr us M.w hij b6 (by omega) hlt hfit hc63 hvb hl0 hul hcs hsp hfz hvs hr.one j6.one).mono ?_
      rintro e' w' ⟨rfl,rfl⟩
      subst hul
      have hU':Upd b M.w ((M.w.setCells b (0+i * 1) us).setCells b (0+(i+us.length)) (List.replicate (j-(i+us.length)) (.pointer none))):=((Upd.refl b M.w).step _ _).step _ _
      have hm:=hU'.move hU
      refine⟨_,rfl,M.U,hm,b,c,e,_,rfl,.inl rfl,?_,hrel hm.le,hU,hfit,hcm,hU'.sized hsz⟩
      have:=clr_row (rep_end_row (i:=i) hrow hsz (by omega) hfit) (o:=0+(i+us.length)) (by simp;omega) (List.replicate (j-(i+us.length)) (.pointer none))
      rwa [hl0] at this
     ·refine (replace_end_full b 0 c i j vb voff m vc arr us M.w hij b6 (by omega) (by omega) hfit hc63 hvb hl0 hul hcs hsp hfz hvs hr.one j6.one).mono ?_
      rintro e' w' ⟨rfl,rfl⟩
      subst hul
      have hU':Upd b M.w (M.w.setCells b (0+i * 1) us):=(Upd.refl b M.w).step _ _
      have hm:=hU'.move hU
      refine⟨_,rfl,M.U,hm,b,c,e,_,rfl,.inl rfl,?_,hrel hm.le,hU,hfit,hcm,hU'.sized hsz⟩
      have:=rep_end_row (i:=i) hrow hsz (by omega) hfit
      rwa [hl0] at this
    ·have hGn:i+m≤grownCap M.w (i+m) c 125:=grownCap_ge M.w _ _ _
     have hGm:grownCap M.w (i+m) c 125≤maxLen:=grownCap_le_maxLen M.w (i+m) c 125 (by unfold maxLen;omega)
     obtain⟨G,hG⟩:∃ G,G=grownCap M.w (i+m) c 125:=⟨_,rfl⟩
     refine (replace_end_grow b 0 c i j vb voff m vc arr us M.w hij b6 (by omega) (by omega) (by omega) hl0 hul hcs hvs hr.one j6.one).mono ?_
     rintro e' w' ⟨rfl,rfl⟩
     rw[← hG] at hGn hGm ⊢
     have hm:=new_move (M:=M) (((Below.refl _ M.w).drew.alloc (Nat.le_refl _) (.cells ((arr.take i++us).toArray++Builtin.zeroCells (Value.cells (.pointer none)) (G-(i+m))) 125)))
     refine⟨_,rfl,_,hm.wide b,M.w.heap.size,G,125,arr.take i++us++arr.drop j,rfl,.inr (Nat.le_refl _),⟨(Builtin.zeroCells (Value.cells (.pointer none)) (G-(i+m))).toList,?_⟩,hrel hm.le,by simp,hGn,hGm,⟨_,_,heap_alloc_new M.w.drew _,?_⟩⟩
     ·refine (heap_alloc_new M.w.drew _).trans ?_
      rw[List.drop_eq_nil_of_le (show arr.length≤j by omega)]
      simp
     ·simp only[Array.size_append,zeroCells_one _ (show (Value.cells (.pointer none)).size=1 by decide),List.size_toArray,List.length_append,List.length_take]
      omega
  ·cases h
end Go.Proofs.YthjmjoioagocdaaGreatDoor.TS
end
