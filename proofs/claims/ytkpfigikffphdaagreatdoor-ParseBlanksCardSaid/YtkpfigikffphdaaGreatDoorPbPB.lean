/-
  Lemmas, part P2: what the claim needs of the texts of wip/tpl.
-/
import Derived.Lib.AppendStr
import Derived.Test.YtkpfigikffphdaaGreatDoorPbPA
set_option linter.unusedVariables false
set_option linter.unusedSimpArgs false
section
namespace Go.Proofs.YtkpfigikffphdaaGreatDoor
open Go.RowKit
section
variable {NG:Nat} {X:Cx} {st:St} {a:Act} {M:Mem} {β κ:Nat→Option Nat}
theorem InvB.box_lt (h:InvB NG X st a M β κ){id b:Nat}(hb:β id=some b):b<M.w.heap.size:=by
 obtain⟨cs,arr,e,_,h2,_⟩:=h.box id b hb
 exact h2.lt
theorem clr_fst (c:Nat)(x:TV):(clr c x).1=x.1:=by unfold clr;split<;>rfl
theorem clr_tag (c:Nat){M:Mem}{κ:Nat→Option Nat}{x:TV}{v:Value}(h:TagOK M κ x.1 x.2 v):TagOK M (fun t=>if t=c then none else κ t) (clr c x).1 (clr c x).2 v:=by
 unfold clr
 split
 ·exact .inl rfl
 ·rename_i hc
  rcases h with h|⟨nl,sz,n,cells,hx,h⟩
  ·exact .inl h
  ·refine .inr ⟨nl,sz,n,cells,hx,?_⟩
   rcases h with h|⟨h2,g,hk,ho⟩
   ·exact .inl h
   ·refine .inr ⟨h2,g,?_,ho⟩
    show (if x.2=c then none else κ x.2)=some g
    rw[if_neg (fun e=>hc (by simp[← e,h2]))]
    exact hk
theorem BoxOK.clr (c:Nat) {M:Mem} {β κ:Nat→Option Nat} {cs:List TV} {arr:List Value} (h:BoxOK M β κ cs arr):BoxOK M β (fun t=>if t=c then none else κ t) (cs.map (Go.Proofs.YtkpfigikffphdaaGreatDoor.clr c)) arr :=
  ⟨by simp [h.1],fun j x hx=>by
    rw [List.getElem?_map] at hx
    rcases hj:cs[j]? with _ | y
    · rw [hj] at hx;simp at hx
    · rw [hj] at hx
      simp at hx
      subst hx
      obtain ⟨u,h1,h2,h3,h4⟩:=h.2 j y hj
      exact ⟨u,h1,h2,by rw [clr_fst];exact h3,clr_tag c h4⟩⟩
theorem BoxK.clr (c:Nat){M:Mem}{β κ:Nat→Option Nat}{cs:List TV}{arr:List Value}(h:BoxK M β κ cs arr):BoxK M β (fun t=>if t=c then none else κ t) (cs.map (Go.Proofs.YtkpfigikffphdaaGreatDoor.clr c)) arr:=by
 rcases h with h|⟨xs,rfl,h⟩
 ·exact .inl (h.clr c)
 ·refine .inr ⟨xs,?_,h⟩
  simp only[List.map_cons,List.map_nil,Go.Proofs.YtkpfigikffphdaaGreatDoor.clr]
  rw[if_neg (by simp;omega)]
theorem InvB.drop (h:InvB NG X st a M β κ)(c:Nat):InvB NG X (st.clr c) a M β (fun t=>if t=c then none else κ t) where
 mv:=h.mv
 ng:=h.ng
 fpng:=h.fpng
 len:=by simp[St.clr,h.len]
 slot:=by
  intro t x hx
  simp only[St.clr,List.getElem?_map] at hx
  rcases ht:st.ρ[t]? with _|y
  ·rw[ht] at hx;simp at hx
  ·rw[ht] at hx
   simp at hx
   subst hx
   obtain⟨v,h1,h2,h3⟩:=h.slot t y ht
   exact⟨v,h1,by rw[clr_fst];exact h2,clr_tag c h3⟩
 box:=by
  intro id b hb
  obtain⟨cs,arr,e,h1,h2,h3,h4,h5⟩:=h.box id b hb
  exact⟨cs.map (Go.Proofs.YtkpfigikffphdaaGreatDoor.clr c),arr,e,by simp[St.clr,List.getElem?_map,h1],h2,h3.clr c,h4,h5⟩
 alive:=by
  intro id cs hc
  simp only[St.clr,List.getElem?_map] at hc
  rcases hi:st.bx[id]? with _|o
  ·rw[hi] at hc;simp at hc
  ·rw[hi] at hc
   cases o with
   |none=>simp at hc
   |some ds=>exact h.alive id ds hi
 binj:=h.binj
 kinj:=by
  intro t t' g h1 h2
  by_cases e1:t=c
  ·simp[e1] at h1
  ·by_cases e2:t'=c
   ·simp[e2] at h2
   ·rw[if_neg e1] at h1;rw[if_neg e2] at h2;exact h.kinj t t' g h1 h2
 kbox:=by
  intro t g id b h1 h2
  by_cases e1:t=c
  ·simp[e1] at h1
  ·rw[if_neg e1] at h1;exact h.kbox t g id b h1 h2
 klow:=by
  intro t g h1
  by_cases e1:t=c
  ·simp[e1] at h1
  ·rw[if_neg e1] at h1;exact h.klow t g h1
 khigh:=by
  intro t g h1
  by_cases e1:t=c
  ·simp[e1] at h1
  ·rw[if_neg e1] at h1;exact h.khigh t g h1
theorem InvB.move (h:InvB NG X st a M β κ){M':Mem}{g:Nat}(hm:Move M M' (some g))(h0:X.low g)(hκ:∀ c,κ c≠some g)(hβ:∀ id,β id≠some g):InvB NG X st a M' β κ where
 mv:=h.mv.trans hm.x (fun b hb e=>by injection e with e;subst e;rcases h0 with h0|h0;(· omega);exact h0)
 ng:=h.ng
 fpng:=h.fpng
 len:=h.len
 slot:=fun t x hx=>let ⟨v,h1,h2,h3⟩:=h.slot t x hx;⟨v,h1,h2.mono hm.le (fun _ _ h=>h),h3.move hm (fun g' hg e=>hκ x.2 (by rw[hg];exact e))⟩
 box:=fun id b hb=>by
  obtain⟨cs,arr,e,h1,h2,h3,h4,h5⟩:=h.box id b hb
  obtain⟨k1,k2⟩:=hm.block b h2.lt (fun e=>hβ id (by rw[hb];exact e))
  exact⟨cs,arr,e,h1,h2.of_eq k1,h3.move hm (fun _ _ h=>h) (fun c g' hg e=>hκ c (by rw[hg];exact e)),k2.trans h4,h5⟩
 alive:=h.alive
 binj:=h.binj
 kinj:=h.kinj
 kbox:=h.kbox
 klow:=h.klow
 khigh:=fun c g hk=>Nat.lt_of_lt_of_le (h.khigh c g hk) hm.size
theorem TagOK.name {M:Mem}{κ:Nat→Option Nat}{c g:Nat}(hc:κ c=none){x:PV}{t:Nat}{v:Value}(h:TagOK M κ x t v):TagOK M (fun t=>if t=c then some g else κ t) x t v:=by
 rcases h with h|⟨nl,sz,n,cells,hx,h⟩
 ·exact .inl h
 ·refine .inr ⟨nl,sz,n,cells,hx,?_⟩
  rcases h with h|⟨h2,g',hk,ho⟩
  ·exact .inl h
  ·refine .inr ⟨h2,g',?_,ho⟩
   show (if t=c then some g else κ t)=some g'
   rw[if_neg (fun e=>by rw[e,hc] at hk;cases hk)]
   exact hk
theorem InvB.name (h:InvB NG X st a M β κ){c g:Nat}(hc:κ c=none)(h0:X.low g)(h1:g<M.w.heap.size)(hκ:∀ c,κ c≠some g)(hβ:∀ id,β id≠some g):InvB NG X st a M β (fun t=>if t=c then some g else κ t) where
 mv:=h.mv
 ng:=h.ng
 fpng:=h.fpng
 len:=h.len
 slot:=fun t x hx=>let ⟨v,h1,h2,h3⟩:=h.slot t x hx;⟨v,h1,h2,h3.name hc⟩
 box:=fun id b hb=>by
  obtain⟨cs,arr,e,h1,h2,h3,h4,h5⟩:=h.box id b hb
  exact⟨cs,arr,e,h1,h2,h3.imp (fun h3=>⟨h3.1,fun j x hx=>let ⟨u,k1,k2,k3,k4⟩:=h3.2 j x hx;⟨u,k1,k2,k3,k4.name hc⟩⟩) fun q=>q,h4,h5⟩
 alive:=h.alive
 binj:=h.binj
 kinj:=by
  intro t t' g' h1 h2
  by_cases e1:t=c<;>by_cases e2:t'=c
  ·rw[e1,e2]
  ·rw[if_pos e1] at h1;rw[if_neg e2] at h2;injection h1 with h1;subst h1;exact (hκ _ h2).elim
  ·rw[if_neg e1] at h1;rw[if_pos e2] at h2;injection h2 with h2;subst h2;exact (hκ _ h1).elim
  ·rw[if_neg e1] at h1;rw[if_neg e2] at h2;exact h.kinj t t' g' h1 h2
 kbox:=by
  intro t g' id b h1 h2
  by_cases e1:t=c
  ·rw[if_pos e1] at h1;injection h1 with h1;subst h1;intro e;subst e;exact hβ id h2
  ·rw[if_neg e1] at h1;exact h.kbox t g' id b h1 h2
 klow:=by
  intro t g' h2
  by_cases e1:t=c
  ·rw[if_pos e1] at h2;injection h2 with h2;subst h2;exact h0
  ·rw[if_neg e1] at h2;exact h.klow t g' h2
 khigh:=by
  intro t g' h2
  by_cases e1:t=c
  ·rw[if_pos e1] at h2;injection h2 with h2;subst h2;exact h1
  ·rw[if_neg e1] at h2;exact h.khigh t g' h2
theorem InvB.addBox0 (h:InvB NG X st a M β κ){d g:Nat}{cs:List TV}{arr:List Value}{e:TypeId}(hg:RowP M.w g e arr)(hU:M.U g=0)(h0:X.low g)(hκ:∀ c,κ c≠some g)(hβ:∀ id,β id≠some g)(hd:st.bx[d]? = some none)
  (hc:BoxK M β κ cs arr):InvB NG X ⟨st.ρ,st.bx.set d (some cs),st.out⟩ a M (fun id=>if id=d then some g else β id) κ:=by
 have hβd:β d=none:=by
  rcases hb:β d with _|b
  ·rfl
  ·obtain⟨cs,_,_,h1,_⟩:=h.box d b hb
   rw[hd] at h1
   cases h1
 have hmono:∀ id b,β id=some b→(if id=d then some g else β id)=some b:=fun id b hb=>by
  rw[if_neg (fun e=>by rw[e,hβd] at hb;cases hb)];exact hb
 exact
  {mv:=h.mv
   ng:=h.ng
   fpng:=h.fpng
   len:=h.len
   slot:=fun t x hx=>let ⟨v,h1,h2,h3⟩:=h.slot t x hx;⟨v,h1,h2.mono M.le_refl hmono,h3⟩
   box := by
    intro id b hb
    by_cases e1:id=d
    ·rw[if_pos e1] at hb
     injection hb with hb
     subst hb;subst e1
     have hlt:id<st.bx.length:=(List.getElem?_eq_some_iff.1 hd).1
     exact⟨cs,arr,e,by simp[hlt],hg,hc.beta hmono,hU,h0⟩
    ·rw[if_neg e1] at hb
     obtain⟨cs',arr',e',h1,h2,h3,h4⟩:=h.box id b hb
     exact⟨cs',arr',e',by simp only;rw[List.getElem?_set_ne (Ne.symm e1)];exact h1,h2,h3.beta hmono,h4⟩
   alive:=by
    intro id cs' hc'
    by_cases e1:id=d
    ·exact⟨g,by rw[if_pos e1]⟩
    ·simp only at hc'
     rw[List.getElem?_set_ne (Ne.symm e1)] at hc'
     obtain⟨b,hb⟩:=h.alive id cs' hc'
     exact⟨b,by rw[if_neg e1];exact hb⟩
   binj:=by
    intro id id' b h1 h2
    by_cases e1:id=d<;>by_cases e2:id'=d
    ·rw[e1,e2]
    ·rw[if_pos e1] at h1;rw[if_neg e2] at h2;injection h1 with h1;subst h1;exact (hβ _ h2).elim
    ·rw[if_neg e1] at h1;rw[if_pos e2] at h2;injection h2 with h2;subst h2;exact (hβ _ h1).elim
    ·rw[if_neg e1] at h1;rw[if_neg e2] at h2;exact h.binj id id' b h1 h2
   kinj:=h.kinj
   kbox:=by
    intro c g' id b h1 h2
    by_cases e1:id=d
    ·rw[if_pos e1] at h2;injection h2 with h2;subst h2;intro e;subst e;exact hκ c h1
    ·rw[if_neg e1] at h2;exact h.kbox c g' id b h1 h2
   klow:=h.klow
   khigh:=h.khigh }
theorem InvB.addBox (h:InvB NG X st a M β κ){d g:Nat}{cs:List TV}{arr:List Value}{e:TypeId}(hg:RowP M.w g e arr)(hU:M.U g=0)(h0:X.low g)(hκ:∀ c,κ c≠some g)(hβ:∀ id,β id≠some g)(hd:st.bx[d]? = some none)
  (hc:BoxK M β κ cs arr):InvB NG X ⟨st.ρ.set d (.ptr d 0,0),st.bx.set d (some cs),st.out⟩ (a.put (some d) (.pointer (some ⟨g,0,none⟩))) M (fun id=>if id=d then some g else β id) κ :=
 (h.addBox0 hg hU h0 hκ hβ hd hc).put (some d) (x:=(.ptr d 0,0)) ⟨g,by simp,rfl⟩ (.inl rfl)
theorem move_setRow {M:Mem}{b:Nat}{e:TypeId}{arr:Array Value}{new:List Value}(hh:M.w.heap[b]? = some (.cells arr e (0,0)))(hn:new.length=arr.size)(k4:M.U b=0):Move M ⟨M.w.setRow b new.toArray,M.U,M.y⟩ (some b) :=
 {os:=rfl,tape:=rfl,output:=rfl,size:=by simp[World.setRow]
  block:=fun b' hb' hne=>⟨setRow_other _ _ _ _ (fun e=>hne (by rw[e])),rfl⟩
  le:=⟨fun b' o u h1 h2=>by
   by_cases e1:b'=b
   ·subst e1;rw[k4] at h2;omega
   ·exact⟨(cell_setRow_other _ _ _ _ e1).trans h1,h2⟩,rfl,fun b' k ⟨arr',e',h1,h2⟩=>by
   by_cases e1:b'=b
   ·subst e1
    rw[hh] at h1
    injection h1 with h1
    injection h1 with h1 h3
    subst h1
    exact⟨new.toArray,e,setRow_heap _ _ _ _ _ _ hh,by simp;omega⟩
   ·exact⟨arr',e',(setRow_other _ _ _ _ e1).trans h1,h2⟩⟩ }
theorem InvB.setBox (h:InvB NG X st a M β κ){id b:Nat}{cs:List TV}{arr tl:List Value}{e:TypeId}(hb:β id=some b)(hh:M.w.heap[b]? = some (.cells (arr++tl).toArray e (0,0))){new:List Value}(hnew:new.length=arr.length)
  (hc:BoxK M β κ cs new):InvB NG X { st with bx:=st.bx.set id (some cs) } a ⟨M.w.setRow b (new++tl).toArray,M.U,M.y⟩ β κ:=by
 obtain⟨cs0,arr0,e0,k1,k2,k3,k4,k5⟩:=h.box id b hb
 have hm:=move_setRow (new:=new++tl) hh (by simp[hnew]) k4
 have hκ:∀ c,κ c≠some b:=fun c hk=>h.kbox c b id b hk hb rfl
 exact
  {mv:=h.mv.trans hm.x (fun b' hb' e=>by injection e with e;subst e;rcases k5 with k5|k5;(· omega);exact k5)
   ng:=h.ng
   fpng:=h.fpng
   len:=h.len
   slot:=fun t x hx=>let ⟨v,h1,h2,h3⟩:=h.slot t x hx;⟨v,h1,h2.mono hm.le (fun _ _ h=>h),h3.move hm (fun g' hg e=>hκ x.2 (by rw[hg];exact e))⟩
   box := by
    intro id' b' hb'
    by_cases e1:id'=id
    ·subst e1
     rw[hb] at hb'
     injection hb' with hb'
     subst hb'
     have hlt:id'<st.bx.length:=(List.getElem?_eq_some_iff.1 k1).1
     exact⟨cs,new,e,by simp[hlt],⟨tl,setRow_heap _ _ _ _ _ _ hh⟩,by simpa using hc.move hm (fun _ _ h=>h) (fun c g' hg e=>hκ c (by rw[hg];exact e)),k4,k5⟩
    ·obtain⟨cs',arr',e',h1,h2,h3,h4,h5⟩:=h.box id' b' hb'
     have hne:b'≠b:=fun e2=>e1 (h.binj id' id b (by rw[← e2];exact hb') hb)
     exact⟨cs',arr',e',by simp only;rw[List.getElem?_set_ne (Ne.symm e1)];exact h1,h2.of_eq (setRow_other _ _ _ _ hne),h3.move hm (fun _ _ h=>h) (fun c g' hg e=>hκ c (by rw[hg];exact e)),h4,h5⟩
   alive:=by
    intro id' cs' hc'
    by_cases e1:id'=id
    ·exact⟨b,by rw[e1];exact hb⟩
    ·simp only at hc'
     rw[List.getElem?_set_ne (Ne.symm e1)] at hc'
     exact h.alive id' cs' hc'
   binj:=h.binj
   kinj:=h.kinj
   kbox:=h.kbox
   klow:=h.klow
   khigh:=fun c g hk=>Nat.lt_of_lt_of_le (h.khigh c g hk) hm.size }
theorem Inv.box_lt (h:Inv NG X st a M β κ){id b:Nat}(hb:β id=some b):b<M.w.heap.size:=h.toInvB.box_lt hb
theorem Inv.addBox (h:Inv NG X st a M β κ){d g:Nat}{cs:List TV}{arr:List Value}{e:TypeId}(hg:RowP M.w g e arr)(hU:M.U g=0)(h0:X.low g)(hκ:∀ c,κ c≠some g)(hβ:∀ id,β id≠some g)(hd:st.bx[d]? = some none)
  (hc:BoxK M β κ cs arr) (ho:OutOK X ⟨st.ρ.set d (.ptr d 0,0),st.bx.set d (some cs),st.out⟩ a.defers M (fun id=>if id=d then some g else β id) κ):Inv NG X ⟨st.ρ.set d (.ptr d 0,0),st.bx.set d (some cs),st.out⟩ (a.put (some d) (.pointer (some ⟨g,0,none⟩))) M (fun id=>if id=d then some g else β id) κ :=
 ⟨h.toInvB.addBox hg hU h0 hκ hβ hd hc,by rw[(put_tmps a (some d) _).1];exact ho⟩
theorem Inv.setBox (h:Inv NG X st a M β κ){id b:Nat}{cs:List TV}{arr tl:List Value}{e:TypeId}(hb:β id=some b)(hh:M.w.heap[b]? = some (.cells (arr++tl).toArray e (0,0))){new:List Value}(hnew:new.length=arr.length)
  (hc:BoxK M β κ cs new):Inv NG X { st with bx:=st.bx.set id (some cs) } a ⟨M.w.setRow b (new++tl).toArray,M.U,M.y⟩ β κ :=
 ⟨h.toInvB.setBox hb hh hnew hc,by
  obtain⟨_,_,_,_,_,_,k4,_⟩:=h.box id b hb
  exact h.out.next rfl (by simp) rfl h.size (move_setRow (new:=new++tl) hh (by simp[hnew]) k4).x (fun b' e=>by injection e with e;subst e;exact .inl ⟨id,hb⟩) (fun i b' hi=>.inl hi) (fun c g hg=>.inr (.inl ⟨c,hg⟩))⟩
end
theorem pcells_ok {M:Mem}{β κ:Nat→Option Nat}{x:TV}{v:Value}{cs:List TV}(h:pcells x=some cs)(hr:RelS M β x.1 v)(ht:TagOK M κ x.1 x.2 v):BoxOK M β κ cs v.cells.toList:=by
 have one:∀ {y:TV} {u:Value},u.oneCell'=true→RelS M β y.1 u→TagOK M κ y.1 y.2 u→BoxOK M β κ [y] [u]:=fun {y u} h1 h2 h3 =>
  ⟨rfl,fun j z hz=>by
   cases j with
   |zero=>simp at hz;subst hz;exact⟨u,rfl,h1,h2,h3⟩
   |succ j=>simp at hz⟩
 obtain⟨x,c⟩:=x
 cases x<;>simp only[pcells,Option.some.injEq,reduceCtorEq] at h<;>subst h
 case agg cs =>
  obtain⟨vs,rfl,h1⟩:=rel_agg hr
  simpa [Value.cells] using BoxOK.of_rel h1
 case bool b=>obtain rfl:=rel_bool hr;exact one rfl rfl (.inl rfl)
 case int k n=>obtain rfl:=rel_int hr;exact one rfl rfl (.inl rfl)
 case str s=>obtain rfl:=rel_str hr;exact one rfl rfl (.inl rfl)
 case sl nl sz n cells =>
  have hr':RelD M (.sl nl sz n cells) v:=hr
  have hr2:=hr'
  simp only[RelD] at hr2
  obtain⟨A,c',_,rfl,_⟩:=hr2
  exact one rfl hr ht
 case nilptr=>obtain rfl:v=.pointer none:=hr;exact one rfl rfl (.inl rfl)
 case nptr=>have hr2:=hr;obtain⟨ad,rfl⟩:∃ ad,v=.pointer (some ad):=hr2;exact one rfl hr (.inl rfl)
 case nilIface=>obtain rfl:v=.nilIface:=hr;exact one rfl rfl (.inl rfl)
 case bsl id off sz n =>
  have hr2:=hr
  simp only[RelS] at hr2
  obtain⟨b,c',_,rfl,_⟩:=hr2
  exact one rfl hr (.inl rfl)
 case iface t y =>
  have hr':RelD M (.iface t y) v:=hr
  have hr2:=hr'
  simp only[RelD] at hr2
  obtain⟨u,rfl,_⟩:=hr2
  exact one rfl hr (.inl rfl)
 case nilFunc=>obtain rfl:v=.nilFunc:=hr;exact one rfl rfl (.inl rfl)
 case eptr cs=>have hr2:=hr;obtain⟨b,o,vs,rfl,_,_⟩:=rel_eptr hr2;exact one rfl hr (.inl rfl)
 case ptr id off=>have hr2:=hr;obtain⟨b,_,rfl⟩:=rel_ptr hr2;exact one rfl hr (.inl rfl)
 case clo f caps =>
  have hr2:=hr
  simp only[RelS] at hr2
  obtain⟨vs,he,_⟩:=hr2
  have h1:v.oneCell'=true∧v.cells.toList=[v]:=by subst he;unfold cloV;split<;>exact⟨rfl,rfl⟩
  rw[h1.2]
  exact one (y:=(.clo f caps,0)) h1.1 hr (.inl rfl)
 case agp cs =>
  obtain⟨vs,rfl,h0,h1⟩:=rel_agp hr
  simpa [Value.cells] using BoxOK.of_rels h1 h0
 case yld=>have hr2:v=.func (.yield M.y.l) #[] #[]:=hr;subst hr2;exact one rfl hr (.inl rfl)
 case optr d i off=>have hr2:=hr;obtain⟨b,_,rfl⟩:=rel_optr hr2;exact one rfl hr (.inl rfl)
theorem CT.fits_ok {M:Mem}{t:CT}{v:Value}(h:t.fits v=true):v.oneCell'=true∧RelD M t.zero v:=by
 unfold CT.fits at h
 split at h
 ·simp at h
  obtain⟨rfl,rfl⟩:=h
  exact⟨rfl,rfl⟩
 ·simp at h;subst h;exact⟨rfl,rfl⟩
 ·rename_i s
  simp at h
  refine⟨rfl,?_⟩
  show Value.string s=.string ⟨([]:List UInt8).toArray⟩
  congr 1
  apply ByteArray.ext
  simpa using h
 ·simp at h
  obtain⟨rfl,rfl⟩:=h
  refine⟨rfl,?_⟩
  simp only[CT.zero,RelD]
  exact⟨none,0,[],rfl,Nat.le_refl _,Nat.zero_le _,by simp,by simp,by simp,rfl,.inl rfl⟩
 ·exact⟨rfl,rfl⟩
 ·exact⟨rfl,rfl⟩
 ·exact⟨rfl,rfl⟩
 ·exact⟨h,trivial⟩
 ·cases h
theorem fitsAll_ok {M:Mem}:∀ {ts:List CT} {vs:List Value},fitsAll ts vs=true→RelL M (ts.map CT.zero) vs
 |[],[],_=>rfl
 |[],_::_,h=>by simp[fitsAll] at h
 |_::_,[],h=>by simp[fitsAll] at h
 |t::ts,v::vs,h=>by
  simp only[fitsAll,Bool.and_eq_true] at h
  obtain⟨h1,h2⟩:=CT.fits_ok (M:=M) h.1
  exact⟨v,vs,rfl,h1,h2,fitsAll_ok h.2⟩
theorem zeroPV_ok {P:Program}{t:TypeId}{cs:List PV}(h:zeroPV P t=some cs):∃ i z,P.info? t=some i∧i.zero=some z∧i.size=z.cells.size∧∀ M,RelL M cs z.cells.toList:=by
 unfold zeroPV at h
 split at h
 ·rename_i z hz
  obtain⟨hf,h⟩:=ite_inv h
  injection h with h
  subst h
  simp only[Bool.and_eq_true,beq_iff_eq] at hf
  obtain⟨i,hi,hz⟩:=bind_some_inv hz
  refine⟨i,z,hi,hz,?_,fun M=>fitsAll_ok hf.1⟩
  have:=hf.2
  simp only[szOf,hi,Option.map_some,Option.getD_some] at this
  exact this
 ·cases h
end Go.Proofs.YtkpfigikffphdaaGreatDoor
namespace Go.Proofs.YtkpfigikffphdaaGreatDoor
open Go.RowKit
section
variable {en:Env} {NG:Nat} {W:World→Prop} {st:St} {o:Oper}
theorem sim_mk {cs:List TV}(h:∀ (X:Cx) (a:Act) (M:Mem) (β κ:Nat→Option Nat),Inv NG X st a M β κ→GOK en X.M0→Amb en NG W X →
  ∃ arr e,(execOp a.eval o).run en.P M.w=.ok (.value (.pointer (some ⟨M.w.heap.size,0,none⟩))) (M.w.alloc (.cells arr e))∧BoxOK M β κ cs arr.toList):Sim en NG W st o (.mk cs):=by
 intro X a M β κ hI hG hW st' hst ro next Q hn
 obtain⟨arr,e,h1,h2⟩:=h X a M β κ hI hG hW
 simp only[papply] at hst
 split at hst
 ·rename_i d hd
  split at hst
  ·rename_i hbx
   obtain⟨hdl,hst⟩:=ite_inv hst
   injection hst with hst
   subst hst
   have hm:Move M (M.lay (M.w.alloc (.cells arr e)) M.w.heap.size 0) none:=Move.lay (below_alloc (Below.refl _ _) _) (Nat.le_refl _) 0
   refine wp_value h1 (hn _ (M.lay (M.w.alloc (.cells arr e)) M.w.heap.size 0) (fun id=>if id=d then some M.w.heap.size else β id) κ ?_)
   rw[hd]
   exact (hI.grow hm).addBox (e:=e) (arr:=arr.toList) (RowP.full (heap_alloc_new M.w _)) (by simp[Mem.lay]) (.inl hI.size) (fun c hc=>by have:=hI.khigh c _ hc;omega) (fun id hb=>by have:=hI.box_lt hb;omega) hbx (.inl (h2.move hm (fun _ _ h=>h) (fun _ _ _=>by simp)))
    (hI.out.next (by simp) (by simp) rfl hI.size hm.x (fun b e=>by cases e) (fun id b hb=>by
     by_cases e1:id=d
     ·rw[if_pos e1] at hb;injection hb with hb;subst hb;exact .inr ⟨Nat.le_refl _,fun j _ e2=>by subst e1;have hlt:@LT.lt Nat _ id st.ρ.length:=hdl;omega⟩
     ·rw[if_neg e1] at hb;exact .inl hb) (fun c g hg=>.inr (.inl ⟨c,hg⟩)))
  ·cases hst
 ·cases hst
theorem newVar_run {P:Program}{t:TypeId}{v:Value}{w:World}:(newVar t v).run P w=.ok ⟨w.heap.size,0,none⟩ (w.alloc (.cells v.cells t)):=by
 simp[newVar,newRow]
theorem zero_run {P:Program}{t:TypeId}{i:TypeInfo}{z:Value}(hi:P.info? t=some i)(hz:i.zero=some z)(w:World):(zeroValue t).run P w=.ok z w:=by
 simp[zeroValue,typeInfo,hi,hz]
theorem sim_alloc {t:TypeId}(ho:o.op=.alloc t){act:PAct}(h:presolve en st o some=some act):Sim en NG W st o act:=by
 simp only[presolve,ho] at h
 split at h
 ·rename_i cs hcs
  injection h with h
  subst h
  obtain⟨i,z,hi,hz,_,hr⟩:=zeroPV_ok hcs
  refine sim_mk fun X a M β κ hI hG _=>⟨z.cells,t,?_,BoxOK.of_rel (hr M)⟩
  simp[execOp,ho,Instr.alloc,zero_run hi hz,newVar_run]
 ·cases h
theorem sim_box {t:TypeId}{x:Operand}(ho:o.op=.box t x){act:PAct}(h:presolve en st o some=some act):Sim en NG W st o act:=by
 simp only[presolve,ho] at h
 split at h
 ·rename_i cs hcs
  injection h with h
  subst h
  refine sim_mk fun X a M β κ hI hG _=>⟨(a.eval x).cells,t,?_,pcells_ok hcs (hI.ev hG t x).1 (hI.ev hG t x).2⟩
  simp[execOp,ho,Instr.box,newVar_run]
 ·cases h
theorem BoxOK.splice {M:Mem}{β κ:Nat→Option Nat}{cs ds:List TV}{arr new:List Value}(h:BoxOK M β κ cs arr)(k:BoxOK M β κ ds new){off:Nat}(hle:off+ds.length≤cs.length) :
  BoxOK M β κ (cs.take off++ds++cs.drop (off+ds.length)) (arr.take off++new++arr.drop (off+new.length)):=by
 have e1:=h.1
 have e2:=k.1
 refine⟨by simp;omega,fun j x hx=>?_⟩
 have l1:(cs.take off).length=off:=by rw[List.length_take];omega
 have l2:(arr.take off).length=off:=by rw[List.length_take];omega
 by_cases c1:j<off
 ·rw[List.append_assoc,List.getElem?_append_left (by omega),List.getElem?_take_of_lt c1] at hx
  obtain⟨u,hu,r⟩:=h.2 j x hx
  exact⟨u,by rw[List.append_assoc,List.getElem?_append_left (by omega),List.getElem?_take_of_lt c1];exact hu,r⟩
 ·by_cases c2:j<off+ds.length
  ·rw[List.append_assoc,List.getElem?_append_right (by omega),List.getElem?_append_left (by omega),l1] at hx
   obtain⟨u,hu,r⟩:=k.2 _ x hx
   exact⟨u,by rw[List.append_assoc,List.getElem?_append_right (by omega),List.getElem?_append_left (by omega),l2];exact hu,r⟩
  ·rw[List.append_assoc,List.getElem?_append_right (by omega),List.getElem?_append_right (by omega),l1,List.getElem?_drop] at hx
   obtain⟨u,hu,r⟩:=h.2 _ x hx
   refine⟨u,?_,r⟩
   rw[List.append_assoc,List.getElem?_append_right (by omega),List.getElem?_append_right (by omega),l2,List.getElem?_drop,← hu]
   congr 1
   omega
theorem RelL.splice {M:Mem}{cs ds:List PV}{arr new:List Value}(h:RelL M cs arr)(k:RelL M ds new){off:Nat}:RelL M (cs.take off++ds++cs.drop (off+ds.length)) (arr.take off++new++arr.drop (off+new.length)):=by
 rw[k.length]
 exact ((h.take _).append k).append (h.drop _)
theorem sim_store {t:TypeId}(hT:TypesOK en.P t){x y:Operand}(ho:o.op=.store t x y)(hti:(en.P.info? t).isSome=true){act:PAct}(h:presolve en st o some=some act):Sim en NG W st o act:=by
 simp only[presolve,ho] at h
 split at h
 ·rename_i id off cs hx hy
  obtain⟨hd,h⟩:=ite_inv h
  injection h with h
  subst h
  intro X a M β κ hI hG hW st' hst ro next Q hn
  simp only[papply] at hst
  split at hst
  ·rename_i cs0 hbx hdst
   obtain⟨cs2,hbs,hst⟩:=Option.map_eq_some_iff.1 hst
   subst hst
   have hx':=(hI.ev hG t x).1
   rw[hx] at hx'
   obtain⟨b,hb,he⟩:=rel_ptr hx'
   obtain⟨cs1,arr,e,k1,⟨tl,k2⟩,k3,k4,k5⟩:=hI.box id b hb
   rw[hbx] at k1
   injection k1 with k1
   injection k1 with k1
   subst k1
   have hc:=pcells_ok hy (hI.ev hG t y).1 (hI.ev hG t y).2
   have hcl:=hc.1
   have hsz:(a.eval y).cells.size=szOf en.P t:=by rw[← hd];simpa using hcl.symm
   have key:off+cs.length≤arr.length→∀ (cs2:List TV),BoxK M β κ cs2 (arr.take off++(a.eval y).cells.toList++arr.drop (off+(a.eval y).cells.toList.length)) →
     (∀ a' M' β' κ',Inv NG X { st with bx:=st.bx.set id (some cs2) } a' M' β' κ'→next a' M'.w)→o.wpIn (FR ro) 0 en.P a M.w next Q:=by
    intro hle cs2 hk hn
    have hcl2:cs.length=(a.eval y).cells.toList.length:=hcl
    have hfit:off+0+(a.eval y).cells.toList.length≤(arr++tl).toArray.size:=by simp at hcl2 ⊢;omega
    have hrun:=run_storeCells_at en.P b off e (a.eval y).cells.toList 0 (arr++tl).toArray M.w k2 hfit hc.one
    simp only[Nat.add_zero] at hrun
    have hrow:(arr++tl).toArray.toList.take off++(a.eval y).cells.toList++(arr++tl).toArray.toList.drop (off+(a.eval y).cells.toList.length)=(arr.take off++(a.eval y).cells.toList++arr.drop (off+(a.eval y).cells.toList.length))++tl:=by
     simp only[List.toList_toArray]
     rw[List.take_append_of_le_length (by omega),List.drop_append_of_le_length (by omega)]
     simp only[List.append_assoc]
    rw[hrow] at hrun
    refine wp_none (w':=M.w.setRow b ((arr.take off++(a.eval y).cells.toList++arr.drop (off+(a.eval y).cells.toList.length))++tl).toArray) ?_ ?_
    ·simp[execOp,ho,Instr.storeAt,he,Instr.sureAddr,storeVar,size_run hti,hsz,hrun]
    ·rw[hdst]
     exact hn _ _ _ _ (hI.setBox hb k2 (by simp at hcl2 ⊢;omega) hk)
   unfold bxStore at hbs
   rcases ha:arrB cs0 with _|xs
   ·rw[ha] at hbs
    obtain⟨hle,hbs⟩:=ite_inv hbs
    injection hbs with hbs
    subst hbs
    have k3:=k3.cells ha
    exact key (by rw[← k3.1];exact hle) _ (.inl (k3.splice hc hle)) hn
   ·rw[ha] at hbs
    obtain⟨hle,hbs⟩:=bif_inv hbs
    injection hbs with hbs
    subst hbs
    simp only[Bool.and_eq_true,decide_eq_true_eq] at hle
    have k3:=k3.arr ha
    have hr:=hc.rel hle.1
    have hl2:(cs.map (·.1)).length=cs.length:=by simp
    refine key (by rw[← k3.length];exact hle.2) _ (.inr ⟨_,rfl,?_⟩) hn
    have:=k3.splice hr (off:=off)
    rw[hl2] at this
    rw[show off+cs.length=off+(a.eval y).cells.toList.length from congrArg (off + ·) hcl] at this ⊢
    exact this
  ·cases hst
 ·cases h
theorem BoxOK.piece {M:Mem}{β κ:Nat→Option Nat}{cs:List TV}{arr:List Value}(h:BoxOK M β κ cs arr)(off n:Nat):RelCs M β (((cs.take (off+n)).drop off).map (·.1)) ((arr.take (off+n)).drop off):=by
 have:=(h.rels.take (off+n)).drop off
 rwa [← List.map_take,← List.map_drop] at this
theorem sim_load_b {t:TypeId}(hT:TypesOK en.P t){x:Operand}(ho:o.op=.load t x)(hti:(en.P.info? t).isSome=true)(hone:isAggT en.P t=false→szOf en.P t=1){id off:Nat}(hx:(ev en st t x).1=.ptr id off){act:PAct}(h:presolve en st o some=some act):Sim en NG W st o act:=by
 simp only[presolve,ho,hx] at h
 injection h with h
 subst h
 intro X a M β κ hI hG hW st' hst ro next Q hn
 simp only[papply,actVal] at hst
 obtain⟨yv,hst2,he0⟩:=Option.map_eq_some_iff.1 hst
 clear hst
 subst he0
 have hst:=hst2
 clear hst2
 split at hst
 ·rename_i cs hbx
  have hx':=(hI.ev hG t x).1
  rw[hx] at hx'
  obtain⟨b,hb,he⟩:=rel_ptr hx'
  obtain⟨cs1,arr,e,k1,⟨tl,k2⟩,k3,k4,k5⟩:=hI.box id b hb
  rw[hbx] at k1
  injection k1 with k1
  injection k1 with k1
  subst k1
  have hcell1:∀ j u,arr[j]? = some u→M.w.cell? ⟨b,j,none⟩=some u:=by
   intro j u hu
   rw[cell_of_row _ _ _ (arr++tl).toArray e (0,0) k2]
   have hlt:=(List.getElem?_eq_some_iff.1 hu).1
   simp only[List.getElem?_toArray]
   rw[List.getElem?_append_left hlt]
   exact hu
  have hcell:∀ n j u,((arr.take (off+n)).drop off)[j]? = some u→M.w.cell? ⟨b,off+j,none⟩=some u:=by
   intro n j u hu
   rw[List.getElem?_drop,List.getElem?_take] at hu
   split at hu
   ·exact hcell1 _ _ hu
   ·cases hu
  have one:∀ (yv:TV) u,isAggT en.P t=false→arr[off]? = some u→u.oneCell'=true→RelS M β yv.1 u→TagOK M κ yv.1 yv.2 u→(∀ a' M' β' κ',Inv NG X (putS o.dst yv st) a' M' β' κ'→next a' M'.w)→o.wpIn (FR ro) 0 en.P a M.w next Q:=by
   intro yv u hag h1 h2 h3 h4 hn
   have hl:=run_loadVar (P:=en.P) (w:=M.w) (t:=t) (b:=b) (off:=off) (vs:=[u]) hti (hT.un) (by rw[hone hag];rfl) (fun j u' hj=>by
    cases j with
    |zero=>simp at hj;subst hj;rw[Nat.add_zero];exact hcell1 _ _ h1
    |succ j=>simp at hj) (fun _=>rfl)
   exact wp_value (v:=u) (w':=M.w) (by simp[execOp,ho,Instr.loadAt,he,Instr.sureAddr,hl,hag]) (hn _ M β κ (hI.put o.dst h3 h4))
  have many:∀ (p:PV),isAggT en.P t=true→off+szOf en.P t≤arr.length→RelS M β p (.agg ((arr.take (off+szOf en.P t)).drop off).toArray)→(∀ a' M' β' κ',Inv NG X (putS o.dst (p,0) st) a' M' β' κ'→next a' M'.w)→o.wpIn (FR ro) 0 en.P a M.w next Q:=by
   intro p hag hle hp hn
   have hl:=run_loadVar (P:=en.P) (w:=M.w) hti (hT.un) (b:=b) (off:=off) (vs:=(arr.take (off+szOf en.P t)).drop off) (by simp;omega) (hcell _) (by simp[hag])
   exact wp_value (v:=.agg ((arr.take (off+szOf en.P t)).drop off).toArray) (w':=M.w) (by simp[execOp,ho,Instr.loadAt,he,Instr.sureAddr,hl,hag]) (hn _ M β κ (hI.put o.dst (x:=(p,0)) hp (.inl rfl)))
  rcases ha:arrB cs with _|xs<;>rw[ha] at hst
  ·have k3:=k3.cells ha
   cases hag:isAggT en.P t
   ·rw[hag] at hst
    simp only[Bool.false_eq_true,if_false] at hst
    obtain⟨u,h1,h2,h3,h4⟩:=k3.2 off yv hst
    exact one yv u hag h1 h2 h3 h4 hn
   ·rw[hag] at hst
    simp only[if_true] at hst
    obtain⟨hle,hst⟩:=ite_inv hst
    injection hst with hst
    subst hst
    have hr:=k3.piece off (szOf en.P t)
    exact many _ hag (by rw[← k3.1];exact hle) (aggP_ok (fun u hu=>k3.one u (List.mem_of_mem_take (List.mem_of_mem_drop hu))) hr) hn
  ·have k3:=k3.arr ha
   cases hag:isAggT en.P t
   ·rw[hag] at hst
    simp only[Bool.false_eq_true,if_false] at hst
    obtain⟨x1,hx1,hst⟩:=Option.map_eq_some_iff.1 hst
    subst hst
    obtain⟨u,h1,h2,h3⟩:=k3.get hx1
    exact one _ u hag h1 h2 (RelS.of_data h3) (.inl rfl) hn
   ·rw[hag] at hst
    simp only[if_true] at hst
    obtain⟨hle,hst⟩:=ite_inv hst
    injection hst with hst
    subst hst
    refine many _ hag (by rw[← k3.length];exact hle) ?_ hn
    refine RelS.of_data ?_
    simp only[RelD]
    exact⟨_,rfl,(k3.take _).drop _⟩
 ·cases hst
theorem sim_load {t:TypeId}(hT:TypesOK en.P t){x:Operand}(ho:o.op=.load t x)(hti:(en.P.info? t).isSome=true)(hone:isAggT en.P t=false→szOf en.P t=1){act:PAct}(h:presolve en st o some=some act):Sim en NG W st o act:=by
 rcases hx:(ev en st t x).1 with _|_|_|_|_|_|_|_|_|_|_|_|⟨id,off⟩|cs|_|_|_|_|_
 case ptr=>exact sim_load_b hT ho hti hone hx h
 case eptr=>exact sim_load_e hT ho hti hx h
 all_goals (simp only[presolve,ho,hx,reduceCtorEq] at h)
theorem fill_one (off:Nat):∀ (cs:List Value) (arr:Array Value) (j:Nat),off+j+cs.length≤arr.size→(cs.zipIdx j).foldl (fun a (p:Value×Nat)=>a.setIfInBounds (off+p.2) p.1) arr=(arr.toList.take (off+j)++cs++arr.toList.drop (off+j+cs.length)).toArray
 |[],arr,j,_=>by simp
 |c::cs,arr,j,h=>by
  simp only[List.zipIdx_cons,List.foldl_cons]
  rw[fill_one off cs _ (j+1) (by simp at h ⊢;omega)]
  simp only[List.length_cons] at h
  have hlt:off+j<arr.size:=by omega
  congr 1
  rw[Array.toList_setIfInBounds,show off+(j+1)=off+j+1 by omega]
  rw[List.take_set,List.drop_set,if_pos (by omega)]
  have e:(arr.toList.take (off+j+1)).set (off+j) c=arr.toList.take (off+j)++[c]:=by
   rw[List.take_succ_eq_append_getElem (by simpa using hlt),List.set_append_right _ _ (by simp;omega)]
   simp[Nat.min_eq_left (Nat.le_of_lt hlt)]
  rw[e]
  simp only[List.append_assoc,List.singleton_append,List.length_cons]
  congr 3
  omega
theorem fill_ok {P:Program}{w:World}{M:Mem}{place:Nat→Option (Nat×Nat)}:∀ (vals:List (Nat×Value)) (ps:List (Nat×List PV)) (cells out:List PV) (arr:Array Value),
  pfill cells ps=some out→RelL M cells arr.toList→vals.length=ps.length →
  (∀ (k i:Nat) (v:Value) (off:Nat) (xs:List PV),vals[k]? = some (i,v)→ps[k]? = some (off,xs)→place i=some (off,xs.length)∧RelL M xs v.cells.toList) →
  ∃ new,Instr.fill place arr vals=some new∧RelL M out new.toList
 |[],[],cells,out,arr,h,hr,_,_=>by
  simp only[pfill,Option.some.injEq] at h
  subst h
  exact⟨arr,rfl,hr⟩
 |[],_::_,_,_,_,_,_,hl,_=>by simp at hl
 |_::_,[],_,_,_,_,_,hl,_=>by simp at hl
 |(i,v)::vals,(off,xs)::ps,cells,out,arr,h,hr,hl,hp=>by
  simp only[pfill] at h
  obtain⟨hle,h⟩:=ite_inv h
  obtain⟨h1,h2⟩:=hp 0 i v off xs rfl rfl
  have e1:=hr.length
  have e2:=h2.length
  simp only[Array.length_toList] at e1 e2
  have hf:=fill_one off v.cells.toList arr 0 (by simp;omega)
  simp only[Nat.add_zero] at hf
  have hr':=hr.splice h2 (off:=off)
  obtain⟨new,k1,k2⟩:=fill_ok (P:=P) (w:=w) (place:=place) vals ps _ out (arr.toList.take off++v.cells.toList++arr.toList.drop (off+v.cells.toList.length)).toArray h (by simpa using hr') (by simpa using hl) (fun k i v off xs a b=>hp (k+1) i v off xs a b)
  refine⟨new,?_,k2⟩
  simp only[Instr.fill,h1]
  rw[if_neg (by simp;omega)]
  have hz:v.cells.zipIdx.foldl (fun (cs:Array Value) (x:Value×Nat)=>cs.setIfInBounds (off+x.2) x.1) arr=(v.cells.toList.zipIdx 0).foldl (fun a (p:Value×Nat)=>a.setIfInBounds (off+p.2) p.1) arr:=by
   rw[← Array.foldl_toList,Array.toList_zipIdx]
  rw[hz,hf]
  exact k1
theorem parts_ok {X:Cx}{a:Act}{M:Mem}{β κ:Nat→Option Nat}(hI:Inv NG X st a M β κ)(hG:GOK en X.M0){place:Nat→Option (Nat×Nat×TypeId)}:∀ (parts:List (Nat×Operand)) (ps:List (Nat×List PV)),pbuildParts en st place parts=some ps →
  (parts.map fun p=>(p.1,a.eval p.2)).length=ps.length∧∀ (k i:Nat) (v:Value) (off:Nat) (xs:List PV),(parts.map fun p=>(p.1,a.eval p.2))[k]? = some (i,v)→ps[k]? = some (off,xs)→(∃ t,place i=some (off,xs.length,t))∧RelL M xs v.cells.toList
 |[],ps,h=>by
  simp only[pbuildParts,Option.some.injEq] at h
  subst h
  exact⟨rfl,fun k i v off xs h=>by simp at h⟩
 |(i, x)::parts,ps,h=>by
  simp only[pbuildParts] at h
  split at h
  ·rename_i off sz t hpl
   split at h
   ·rename_i cs hcs
    obtain⟨hd,h⟩:=ite_inv h
    simp only[Bool.and_eq_true,beq_iff_eq,decide_eq_true_eq] at hd
    rcases hp:pbuildParts en st place parts with _|ps'
    ·rw[hp] at h;simp at h
    ·rw[hp] at h
     simp only[Option.map_some,Option.some.injEq] at h
     subst h
     obtain⟨h1,h2⟩:=parts_ok hI hG parts ps' hp
     refine⟨by simpa using h1,fun k i' v off' xs hk hp'=>?_⟩
     cases k with
     |zero =>
      simp at hk hp'
      obtain⟨rfl,rfl⟩:=hk
      obtain⟨rfl,rfl⟩:=hp'
      exact⟨⟨t,by rw[hpl];simp[hd.1]⟩,(pcells_ok hcs (hI.ev hG t x).1 (hI.ev hG t x).2).rel hd.2⟩
     |succ k=>exact h2 k i' v off' xs (by simpa using hk) (by simpa using hp')
   ·cases h
  ·cases h
theorem RelCs.splice {M:Mem}{β:Nat→Option Nat}{cs ds:List PV}{arr new:List Value}(h:RelCs M β cs arr)(k:RelCs M β ds new){off:Nat}:RelCs M β (cs.take off++ds++cs.drop (off+ds.length)) (arr.take off++new++arr.drop (off+new.length)):=by
 rw[k.length]
 exact ((h.take _).append k).append (h.drop _)
theorem fillP_ok {M:Mem}{β:Nat→Option Nat}{place:Nat→Option (Nat×Nat)}:∀ (vals:List (Nat×Value)) (ps:List (Nat×List PV)) (cells out:List PV) (arr:Array Value),
  pfill cells ps=some out→RelCs M β cells arr.toList→(∀ u∈arr.toList,u.oneCell'=true)→vals.length=ps.length →
  (∀ (k i:Nat) (v:Value) (off:Nat) (xs:List PV),vals[k]? = some (i,v)→ps[k]? = some (off,xs)→place i=some (off,xs.length)∧RelCs M β xs v.cells.toList∧∀ u∈v.cells.toList,u.oneCell'=true) →
  ∃ new,Instr.fill place arr vals=some new∧RelCs M β out new.toList∧∀ u∈new.toList,u.oneCell'=true
 |[],[],cells,out,arr,h,hr,h0,_,_=>by
  simp only[pfill,Option.some.injEq] at h
  subst h
  exact⟨arr,rfl,hr,h0⟩
 |[],_::_,_,_,_,_,_,_,hl,_=>by simp at hl
 |_::_,[],_,_,_,_,_,_,hl,_=>by simp at hl
 |(i,v)::vals,(off,xs)::ps,cells,out,arr,h,hr,h0,hl,hp=>by
  simp only[pfill] at h
  obtain⟨hle,h⟩:=ite_inv h
  obtain⟨h1,h2,h3⟩:=hp 0 i v off xs rfl rfl
  have e1:=hr.length
  have e2:=h2.length
  simp only[Array.length_toList] at e1 e2
  have hf:=fill_one off v.cells.toList arr 0 (by simp;omega)
  simp only[Nat.add_zero] at hf
  have hr':=hr.splice h2 (off:=off)
  obtain⟨new,k1,k2,k3⟩:=fillP_ok (place:=place) vals ps _ out (arr.toList.take off++v.cells.toList++arr.toList.drop (off+v.cells.toList.length)).toArray h (by simpa using hr') (by
   intro u hu
   simp only[List.append_assoc,List.mem_append] at hu
   rcases hu with hu|hu|hu
   ·exact h0 u (List.mem_of_mem_take hu)
   ·exact h3 u hu
   ·exact h0 u (List.mem_of_mem_drop hu)) (by simpa using hl) (fun k i v off xs a b=>hp (k+1) i v off xs a b)
  refine⟨new,?_,k2,k3⟩
  simp only[Instr.fill,h1]
  rw[if_neg (by simp;omega)]
  have hz:v.cells.zipIdx.foldl (fun (cs:Array Value) (x:Value×Nat)=>cs.setIfInBounds (off+x.2) x.1) arr=(v.cells.toList.zipIdx 0).foldl (fun a (p:Value×Nat)=>a.setIfInBounds (off+p.2) p.1) arr:=by
   rw[← Array.foldl_toList,Array.toList_zipIdx]
  rw[hz,hf]
  exact k1
theorem partsP_ok {X:Cx}{a:Act}{M:Mem}{β κ:Nat→Option Nat}(hI:Inv NG X st a M β κ)(hG:GOK en X.M0){place:Nat→Option (Nat×Nat×TypeId)}:∀ (parts:List (Nat×Operand)) (ps:List (Nat×List PV)),pbuildPartsP en st place parts=some ps →
  (parts.map fun p=>(p.1,a.eval p.2)).length=ps.length∧∀ (k i:Nat) (v:Value) (off:Nat) (xs:List PV),(parts.map fun p=>(p.1,a.eval p.2))[k]? = some (i,v)→ps[k]? = some (off,xs)→(∃ t,place i=some (off,xs.length,t))∧RelCs M β xs v.cells.toList∧∀ u∈v.cells.toList,u.oneCell'=true
 |[],ps,h=>by
  simp only[pbuildPartsP,Option.some.injEq] at h
  subst h
  exact⟨rfl,fun k i v off xs h=>by simp at h⟩
 |(i, x)::parts,ps,h=>by
  simp only[pbuildPartsP] at h
  split at h
  ·rename_i off sz t hpl
   split at h
   ·rename_i cs hcs
    obtain⟨hd,h⟩:=ite_inv h
    rcases hp:pbuildPartsP en st place parts with _|ps'
    ·rw[hp] at h;simp at h
    ·rw[hp] at h
     simp only[Option.map_some,Option.some.injEq] at h
     subst h
     obtain⟨h1,h2⟩:=partsP_ok hI hG parts ps' hp
     refine⟨by simpa using h1,fun k i' v off' xs hk hp'=>?_⟩
     cases k with
     |zero =>
      simp at hk hp'
      obtain⟨rfl,rfl⟩:=hk
      obtain⟨rfl,rfl⟩:=hp'
      have hb:=pcells_ok hcs (hI.ev hG t x).1 (hI.ev hG t x).2
      exact⟨⟨t,by rw[hpl];simp[hd]⟩,hb.rels,hb.one⟩
     |succ k=>exact h2 k i' v off' xs (by simpa using hk) (by simpa using hp')
   ·cases h
  ·cases h
end
end Go.Proofs.YtkpfigikffphdaaGreatDoor
namespace Go.Proofs.YtkpfigikffphdaaGreatDoor
open Go.RowKit
section
variable {en:Env} {NG:Nat} {W:World→Prop} {st:St} {o:Oper}
theorem mapM_run {P:Program}{w:World}{α β:Type}(f:α→Sem β)(g:α→β):∀ l:List α,(∀ x∈l,(f x).run P w=.ok (g x) w)→(l.mapM f).run P w=.ok (l.map g) w
 |[],_=>rfl
 |x::l,h=>by
  simp only[List.mapM_cons,Sem.run_bind,h x (by simp),Result.andThen_ok,mapM_run f g l (fun y hy=>h y (by simp[hy])),Sem.run_pure,List.map_cons]
theorem amapM_run {P:Program}{w:World}{α β:Type}(f:α→Sem β)(g:α→β)(l:Array α)(h:∀ x∈l,(f x).run P w=.ok (g x) w):(l.mapM f).run P w=.ok (l.map g) w:=by
 rw[Array.mapM_eq_mapM_toList]
 simp only[Sem.run_map,mapM_run f g l.toList (fun x hx=>h x (by simpa using hx)),Result.andThen_ok]
 congr 1
 apply Array.ext'
 simp
theorem sim_build {t:TypeId}(hT:TypesOK en.P t){parts:Array (Nat×Operand)}(ho:o.op=.build t parts){act:PAct}(h:presolve en st o some=some act):Sim en NG W st o act:=by
 simp only[presolve,ho] at h
 split at h
 ·rename_i z hz
  obtain⟨i,zv,hi,hzv,hsz,hr⟩:=zeroPV_ok hz
  split at h
  ·rename_i fs hfs
   split at h
   ·rename_i ps hps
    split at h
    ·rename_i cs hcs
     injection h with h
     subst h
     refine sim_same fun X a M β κ hI hG _=>?_
     obtain⟨h1,h2⟩:=parts_ok hI hG _ _ hps
     obtain⟨new,k1,k2⟩:=fill_ok (P:=en.P) (w:=M.w) (M:=M) (place:=fun i=>(fs.map fun f=>(f.offset,szOf en.P f.type))[i]?) _ ps z cs zv.cells hcs (hr M) h1 (fun k i v off xs a b=>by
      obtain⟨⟨t',e⟩,r⟩:=h2 k i v off xs a b
      refine⟨?_,r⟩
      rw[Array.getElem?_map]
      rcases hf:fs[i]? with _|f
      ·rw[hf] at e;simp at e
      ·rw[hf] at e
       simp only[Option.map_some,Option.some.injEq,Prod.mk.injEq] at e ⊢
       exact⟨e.1,e.2.1⟩)
     refine⟨.agg new,?_,?_,.inl rfl⟩
     ·have hm:=amapM_run (P:=en.P) (w:=M.w) (fun f:Field=>(do pure (f.offset,← sizeOf f.type):Sem (Nat×Nat))) (fun f=>(f.offset,szOf en.P f.type)) fs (fun f hf=>by simp[size_run (hT.st fs hfs f hf)])
      simp only[execOp,ho,Instr.build,Sem.run_bind,zero_run hi hzv,Result.andThen_ok,run_und hfs]
      rw[hm]
      simp only[Result.andThen_ok]
      have e:(parts.map fun x=>(x.1,a.eval x.2)).toList=parts.toList.map fun p=>(p.1,a.eval p.2):=by simp
      have k1':=k1
      rw[← e] at k1'
      rw[k1']
      rfl
     ·show RelD M (.agg cs) _
      simp only[RelD]
      exact⟨new.toList,by simp,k2⟩
    ·cases h
   ·split at h
    ·rename_i ps hps
     split at h
     ·rename_i cs hcs
      injection h with h
      subst h
      refine sim_same fun X a M β κ hI hG _=>?_
      obtain⟨h1,h2⟩:=partsP_ok hI hG _ _ hps
      obtain⟨new,k1,k2,k3⟩:=fillP_ok (M:=M) (β:=β) (place:=fun i=>(fs.map fun f=>(f.offset,szOf en.P f.type))[i]?) _ ps z cs zv.cells hcs (hr M).rels (hr M).one h1 (fun k i v off xs a b=>by
       obtain⟨⟨t',e⟩,r⟩:=h2 k i v off xs a b
       refine⟨?_,r⟩
       rw[Array.getElem?_map]
       rcases hf:fs[i]? with _|f
       ·rw[hf] at e;simp at e
       ·rw[hf] at e
        simp only[Option.map_some,Option.some.injEq,Prod.mk.injEq] at e ⊢
        exact⟨e.1,e.2.1⟩)
      refine⟨.agg new,?_,?_,.inl rfl⟩
      ·have hm:=amapM_run (P:=en.P) (w:=M.w) (fun f:Field=>(do pure (f.offset,← sizeOf f.type):Sem (Nat×Nat))) (fun f=>(f.offset,szOf en.P f.type)) fs (fun f hf=>by simp[size_run (hT.st fs hfs f hf)])
       simp only[execOp,ho,Instr.build,Sem.run_bind,zero_run hi hzv,Result.andThen_ok,run_und hfs]
       rw[hm]
       simp only[Result.andThen_ok]
       have e:(parts.map fun x=>(x.1,a.eval x.2)).toList=parts.toList.map fun p=>(p.1,a.eval p.2):=by simp
       have k1':=k1
       rw[← e] at k1'
       rw[k1']
       rfl
      ·simp only[RelS]
       exact⟨new.toList,by simp,k3,k2⟩
     ·cases h
    ·cases h
  ·rename_i n e he
   split at h
   ·rename_i ps hps
    split at h
    ·rename_i cs hcs
     injection h with h
     subst h
     refine sim_same fun X a M β κ hI hG _=>?_
     obtain⟨h1,h2⟩:=parts_ok hI hG _ _ hps
     obtain⟨new,k1,k2⟩:=fill_ok (P:=en.P) (w:=M.w) (M:=M) (place:=fun i=>some (i * szOf en.P e,szOf en.P e)) _ ps z cs zv.cells hcs (hr M) h1 (fun k i v off xs a b=>by
      obtain⟨⟨t',e⟩,r⟩:=h2 k i v off xs a b
      simp only[Option.some.injEq,Prod.mk.injEq] at e ⊢
      exact⟨⟨e.1,e.2.1⟩,r⟩)
     refine⟨.agg new,?_,?_,.inl rfl⟩
     ·simp only[execOp,ho,Instr.build,Sem.run_bind,zero_run hi hzv,Result.andThen_ok,run_und he,size_run (hT.ar n e he)]
      have e:(parts.map fun x=>(x.1,a.eval x.2)).toList=parts.toList.map fun p=>(p.1,a.eval p.2):=by simp
      have k1':=k1
      rw[← e] at k1'
      rw[k1']
      rfl
     ·show RelD M (.agg cs) _
      simp only[RelD]
      exact⟨new.toList,by simp,k2⟩
    ·cases h
   ·cases h
  ·cases h
 ·cases h
theorem elemT_spec {P:Program}{t e:TypeId}(h:elemT P t=some e):P.underlying t=some (.slice e):=by
 unfold elemT at h
 split at h
 ·injection h with h;subst h;assumption
 ·cases h
theorem RelL.rep {M:Mem}{z:List PV}{zs:List Value}(h:RelL M z zs):∀ n,RelL M (List.replicate n z).flatten (List.replicate n zs).flatten
 |0=>rfl
 |n+1=>by
  simp only[List.replicate_succ,List.flatten_cons]
  exact h.append (h.rep n)
theorem getElem_bang {α:Type}[Inhabited α](a:Array α)(i:Nat)(h:i<a.size):a[i]! = a[i]:=by simp[h]
theorem rep_flat (zs:Array Value)(h0:0<zs.size):∀ n,((Array.range (n * zs.size)).map fun i=>zs[i%zs.size]!).toList=(List.replicate n zs.toList).flatten
 |0=>by simp
 |n+1 => by
  rw[List.replicate_succ',List.flatten_append,← rep_flat zs h0 n]
  apply List.ext_getElem?
  intro i
  simp only[Array.toList_map,Array.toList_range,List.flatten_cons,List.flatten_nil,List.append_nil]
  by_cases hi:i<n * zs.size
  ·rw[List.getElem?_append_left (by simpa using hi)]
   simp[hi,List.getElem?_range,Nat.lt_of_lt_of_le hi (Nat.mul_le_mul_right _ (Nat.le_succ n))]
  ·rw[List.getElem?_append_right (by simpa using hi)]
   simp only[List.length_map,List.length_range]
   by_cases hj:i<(n+1) * zs.size
   ·have hmod:i%zs.size=i-n * zs.size:=by
     have:i=(i-n * zs.size)+n * zs.size:=by omega
     rw[this,Nat.add_mul_mod_self_right,Nat.mod_eq_of_lt (by rw[Nat.succ_mul] at hj;omega)]
     omega
    have hlt:i-n * zs.size<zs.size:=by rw[Nat.succ_mul] at hj;omega
    simp only[List.getElem?_map,List.getElem?_range hj,Option.map_some]
    rw[hmod,getElem_bang _ _ hlt]
    simp[hlt]
   ·have h2:zs.toList.length≤i-n * zs.size:=by rw[Nat.succ_mul] at hj;simp;omega
    rw[List.getElem?_eq_none h2,List.getElem?_eq_none (by simpa using hj)]
theorem sim_buildSlice {t:TypeId}(hT:TypesOK en.P t){len:Nat}{parts:Array (Nat×Operand)}(ho:o.op=.buildSlice t len parts){act:PAct}(h:presolve en st o some=some act):Sim en NG W st o act:=by
 simp only[presolve,ho] at h
 split at h
 ·rename_i e he
  have he:=elemT_spec he
  have hie:=hT.sl e he
  obtain⟨hle,h⟩:=ite_inv h
  split at h
  ·rename_i z hz
   obtain⟨i,zv,hi,hzv,hsz,hr⟩:=zeroPV_ok hz
   obtain⟨hzl,h⟩:=ite_inv h
   simp only[Bool.and_eq_true,beq_iff_eq,decide_eq_true_eq] at hzl
   have hzs:zv.cells.size=szOf en.P e:=by rw[← hsz];simp[szOf,hi]
   split at h
   ·rename_i ps hps
    split at h
    ·rename_i cs hcs
     injection h with h
     subst h
     refine sim_val fun X a M β κ hI hG _=>?_
     obtain⟨h1,h2⟩:=parts_ok hI hG _ _ hps
     have hz0:=(hr M).rep len
     rw[← rep_flat zv.cells (by omega) len] at hz0
     obtain⟨new,k1,k2⟩:=fill_ok (P:=en.P) (w:=M.w) (M:=M) (place:=fun i=>some (i * szOf en.P e,szOf en.P e)) _ ps _ cs _ hcs hz0 h1 (fun k i v off xs a b=>by
      obtain⟨⟨t',e⟩,r⟩:=h2 k i v off xs a b
      simp only[Option.some.injEq,Prod.mk.injEq] at e ⊢
      exact⟨⟨e.1,e.2.1⟩,r⟩)
     have hfl:∀ (ps:List (Nat×List PV)) (c d:List PV),pfill c ps=some d→d.length=c.length:=by
      intro ps
      induction ps with
      |nil=>intro c d h;simp only[pfill,Option.some.injEq] at h;rw[h]
      |cons p ps ih =>
       intro c d h
       obtain⟨off,xs⟩:=p
       simp only[pfill] at h
       obtain⟨hle,h⟩:=ite_inv h
       rw[ih _ _ h]
       simp
       omega
     have hcl:cs.length=len * szOf en.P e:=by
      rw[hfl _ _ _ hcs,hz0.length]
      simp[hzs]
     have hcap:len≤maxLen:=by
      have:len * 1≤len * szOf en.P e:=Nat.mul_le_mul_left _ hzl.2
      simp only[maxLen]
      omega
     have hrel:=rel_new (M:=M) (w1:=M.w) (Below.refl _ _) (arr:=new) (e:=e) (fr:=(0,0)) (sz:=szOf en.P e) (n:=len) (cap:=len) k2 hcl (Nat.le_refl _) hcap (fun j u hu=>by simpa using hu)
     refine⟨_,M.lay (M.w.alloc (.cells new e)) M.w.heap.size new.toList.length,?_,Move.lay (below_alloc (Below.refl _ _) _) (Nat.le_refl _) _,RelS.of_data hrel,.inr ⟨_,_,_,_,rfl,.inl ⟨_,_,rfl⟩⟩⟩
     have e24:¬ (len * szOf en.P e>2^24):=by omega
     have e':(parts.map fun x=>(x.1,a.eval x.2)).toList=parts.toList.map fun p=>(p.1,a.eval p.2):=by simp
     rw[← e'] at k1
     by_cases h0:len * szOf en.P e=0
     ·have k0:Array.map (fun x=>(#[]:Array Value)[x%(#[]:Array Value).size]!) (Array.range (len * szOf en.P e))=(Array.range (len * zv.cells.size)).map fun i=>zv.cells[i%zv.cells.size]! := by
       rw[hzs,h0]
       simp
      simp only[execOp,ho,Instr.buildSlice,Sem.run_bind,run_und he,Result.andThen_ok,size_run hie,if_neg e24,Sem.run_pure,if_pos h0]
      rw[k0,k1]
      simp[newRow,Mem.lay]
     ·have k0:Array.map (fun x=>zv.cells[x%zv.cells.size]!) (Array.range (len * szOf en.P e))=(Array.range (len * zv.cells.size)).map fun i=>zv.cells[i%zv.cells.size]! := by
       rw[hzs]
      simp only[execOp,ho,Instr.buildSlice,Sem.run_bind,run_und he,Result.andThen_ok,size_run hie,if_neg e24,Sem.run_pure,if_neg h0,zero_run hi hzv]
      rw[k0,k1]
      simp[newRow,Mem.lay]
    ·cases h
   ·cases h
  ·cases h
 ·cases h
end
end Go.Proofs.YtkpfigikffphdaaGreatDoor
namespace Go.Proofs.YtkpfigikffphdaaGreatDoor
open Go.RowKit
section
variable {en:Env} {NG:Nat} {W:World→Prop} {st:St} {o:Oper}
theorem InvB.owned {X:Cx}{a:Act}{M M':Mem}{β κ:Nat→Option Nat}(hI:InvB NG X st a M β κ){c d:Nat}{ex:Option Nat}(hex:ex=none∨∃ g,ex=some g∧2≤c∧κ c=some g)(hm:Move M M' ex)
  {nl:Option Bool} {sz n:Nat} {cells:List PV} {u:Value} (hr:RelD M' (.sl nl sz n cells) u) (hu:Free u∨∃ g,OwnAt M' g sz u∧(M.w.heap.size≤g∨(2≤c∧κ c=some g))) :
  ∃ κ',InvB NG X ⟨((st.clr c).clr (d+2)).ρ.set d (.sl nl sz n cells,d+2),((st.clr c).clr (d+2)).bx,st.out⟩ (a.put (some d) u) M' β κ'∧∀ t g,κ' t=some g→(∃ t,κ t=some g)∨M.w.heap.size≤g:=by
 have I1:=(hI.drop c).drop (d+2)
 have hsub:∀ t g,(if t=d+2 then none else if t=c then none else κ t)=some g→∃ t,κ t=some g:=by
  intro t g ht
  by_cases e1:t=d+2
  ·simp[e1] at ht
  ·rw[if_neg e1] at ht
   by_cases e2:t=c
   ·simp[e2] at ht
   ·rw[if_neg e2] at ht
    exact⟨t,ht⟩
 have hnot:∀ g,κ c=some g→∀ t,(if t=d+2 then none else if t=c then none else κ t)≠some g:=by
  intro g hg t ht
  by_cases e1:t=d+2
  ·simp[e1] at ht
  ·rw[if_neg e1] at ht
   by_cases e2:t=c
   ·simp[e2] at ht
   ·rw[if_neg e2] at ht
    exact e2 (hI.kinj t c g ht hg)
 have I2:InvB NG X ((st.clr c).clr (d+2)) a M' β (fun t=>if t=d+2 then none else if t=c then none else κ t):=by
  rcases hex with rfl|⟨g,rfl,h2,hk⟩
  ·exact I1.grow hm
  ·exact I1.move hm (hI.klow c g hk) (hnot g hk) (fun id hb=>hI.kbox c g id g hk hb rfl)
 rcases hu with hu|⟨g,ho,hg⟩
 ·exact⟨_,I2.put (some d) (x:=(.sl nl sz n cells,d+2)) (RelS.of_data hr) (.inr ⟨_,_,_,_,rfl,.inl hu⟩),fun t g ht=>.inl (hsub t g ht)⟩
 ·have hlow:X.low g:=by
   rcases hg with hg|⟨_,hk⟩
   ·exact .inl (Nat.le_trans hI.size hg)
   ·exact hI.klow c g hk
  have hκ:∀ t,(if t=d+2 then none else if t=c then none else κ t)≠some g:=by
   rcases hg with hg|⟨_,hk⟩
   ·intro t ht
    obtain⟨t',ht'⟩:=hsub t g ht
    have:=hI.khigh t' g ht'
    omega
   ·exact hnot g hk
  have hβ:∀ id,β id≠some g:=by
   rcases hg with hg|⟨_,hk⟩
   ·intro id hb
    have:=hI.box_lt hb
    omega
   ·exact fun id hb=>hI.kbox c g id g hk hb rfl
  have I3:=I2.name (c:=d+2) (g:=g) (by simp) hlow ho.lt hκ hβ
  refine⟨_,I3.put (some d) (x:=(.sl nl sz n cells,d+2)) (RelS.of_data hr) (.inr ⟨_,_,_,_,rfl,.inr ⟨by simp,g,by simp,ho⟩⟩),fun t g' ht=>?_⟩
  by_cases e1:t=d+2
  ·rw[if_pos e1] at ht
   injection ht with ht
   subst ht
   rcases hg with hg|⟨_,hk⟩
   ·exact .inr hg
   ·exact .inl ⟨c,hk⟩
  ·rw[if_neg e1] at ht
   exact .inl (hsub t g' (by rw[if_neg e1];rw[if_neg e1] at ht;exact ht))
theorem Inv.owned {X:Cx}{a:Act}{M M':Mem}{β κ:Nat→Option Nat}(hI:Inv NG X st a M β κ){c d:Nat}{ex:Option Nat}(hex:ex=none∨∃ g,ex=some g∧2≤c∧κ c=some g)(hm:Move M M' ex)
  {nl:Option Bool} {sz n:Nat} {cells:List PV} {u:Value} (hr:RelD M' (.sl nl sz n cells) u) (hu:Free u∨∃ g,OwnAt M' g sz u∧(M.w.heap.size≤g∨(2≤c∧κ c=some g))) :
  ∃ κ',Inv NG X ⟨((st.clr c).clr (d+2)).ρ.set d (.sl nl sz n cells,d+2),((st.clr c).clr (d+2)).bx,st.out⟩ (a.put (some d) u) M' β κ':=by
 obtain⟨κ',h1,h2⟩:=hI.toInvB.owned (d:=d) hex hm hr hu
 have hexx:∀ b,some b=ex→(∃ id,β id=some b)∨∃ c,κ c=some b:=fun b e=>by
  rcases hex with rfl|⟨g,rfl,h3,hk⟩
  ·cases e
  ·injection e with e
   subst e
   exact .inr ⟨c,hk⟩
 refine⟨κ',h1,?_⟩
 rw[(put_tmps a (some d) u).1]
 exact hI.out.next (by simp[St.clr]) (by simp[St.clr]) rfl hI.size hm.x hexx (fun id b hb=>.inl hb) (fun t g hg=>(h2 t g hg).elim (fun h=>.inr (.inl h)) (fun h=>.inr (.inr h)))
theorem sim_own {c:Nat}{nl:Option Bool}{sz n:Nat}{cells:List PV}(h:∀ (X:Cx) (a:Act) (M:Mem) (β κ:Nat→Option Nat),Inv NG X st a M β κ→GOK en X.M0→Amb en NG W X →
  ∃ u M' ex,(execOp a.eval o).run en.P M.w=.ok (.value u) M'.w∧(ex=none∨∃ g,ex=some g∧2≤c∧κ c=some g)∧Move M M' ex∧RelD M' (.sl nl sz n cells) u ∧
   (Free u∨∃ g,OwnAt M' g sz u∧(M.w.heap.size≤g∨(2≤c∧κ c=some g)))):Sim en NG W st o (.own c (.sl nl sz n cells)):=by
 intro X a M β κ hI hG hW st' hst ro next Q hn
 obtain⟨u,M',ex,h1,h2,h3,h4,h5⟩:=h X a M β κ hI hG hW
 simp only[papply] at hst
 split at hst
 ·rename_i d hd
  injection hst with hst
  subst hst
  obtain⟨κ',hI'⟩:=hI.owned (d:=d) h2 h3 h4 h5
  rw[← hd] at hI'
  exact wp_value h1 (hn _ M' β κ' hI')
 ·cases hst
theorem wrap64_in {n:Int}(h0:0≤n)(h1:n≤9223372036854775807):IntKind.wrap .i64 n=n:=by
 have:IntKind.wrap .i64 n=if (true&&decide (n%18446744073709551616 ≥ 9223372036854775808))=true then n%18446744073709551616-18446744073709551616 else n%18446744073709551616:=rfl
 rw[this]
 split<;>simp_all<;>omega
theorem sim_makeSlice {t:TypeId}(hT:TypesOK en.P t){l c:Operand}(ho:o.op=.makeSlice t l c){act:PAct}(h:presolve en st o some=some act):Sim en NG W st o act:=by
 simp only[presolve,ho] at h
 split at h
 ·rename_i e k n k' m he hl hc
  have he:=elemT_spec he
  have hie:=hT.sl e he
  split at h
  ·rename_i z hz
   obtain⟨i,zv,hi,hzv,hsz,hr⟩:=zeroPV_ok hz
   obtain⟨hzl,h⟩:=ite_inv h
   simp only[Bool.and_eq_true,beq_iff_eq,decide_eq_true_eq] at hzl
   obtain⟨hb,h⟩:=bif_inv h
   simp only[Bool.and_eq_true,decide_eq_true_eq] at hb
   obtain⟨⟨⟨h0,hnm⟩,hby⟩,hmx⟩:=hb
   injection h with h
   subst h
   have hzs:zv.cells.size=szOf en.P e:=by rw[← hsz];simp[szOf,hi]
   have hbi:i.bytes=bytesOf en.P e:=by simp[bytesOf,hi]
   refine sim_own fun X a M β κ hI hG _=>?_
   have hl':=(hI.ev hG 0 l).1
   have hc':=(hI.ev hG 0 c).1
   rw[hl] at hl'
   rw[hc] at hc'
   have hl':=rel_int hl'
   have hc':=rel_int hc'
   have hrn:RelL M ((List.replicate n.toNat z).flatten) (List.replicate n.toNat zv.cells.toList).flatten:=(hr M).rep _
   have harr:=rep_flat zv.cells (by omega) m.toNat
   have hpre:(List.replicate m.toNat zv.cells.toList).flatten=(List.replicate n.toNat zv.cells.toList).flatten++(List.replicate (m.toNat-n.toNat) zv.cells.toList).flatten:=by
    rw[← List.flatten_append,List.replicate_append_replicate]
    congr 2
    omega
   have hlen:((List.replicate n.toNat z).flatten).length=n.toNat * szOf en.P e:=by rw[hrn.length];simp[hzs]
   have hcm:m.toNat≤maxLen:=by simp only[maxLen];omega
   have hrel:=rel_new (M:=M) (w1:=M.w) (Below.refl _ _) (arr:=(Array.range (m.toNat * zv.cells.size)).map fun i=>zv.cells[i%zv.cells.size]!) (e:=e) (fr:=(0,0)) (sz:=szOf en.P e) (n:=n.toNat) (cap:=m.toNat) hrn hlen (by omega) hcm (fun j u hu=>by
    rw[← Array.getElem?_toList,harr,hpre,List.getElem?_append_left (List.getElem?_eq_some_iff.1 hu).1]
    exact hu)
   refine⟨_,M.lay (M.w.alloc (.cells ((Array.range (m.toNat * zv.cells.size)).map fun i=>zv.cells[i%zv.cells.size]!) e)) M.w.heap.size _,none,?_,.inl rfl,Move.lay (below_alloc (Below.refl _ _) _) (Nat.le_refl _) _,hrel,.inr ⟨M.w.heap.size,⟨⟨n.toNat,m.toNat,_,e,rfl,heap_alloc_new M.w _,by omega,hcm,by simp[hzs],?_⟩⟩,.inl (Nat.le_refl _)⟩⟩
   ·have e1:=wrap64_in h0 (by omega:n≤9223372036854775807)
    have e2:=wrap64_in (by omega:0≤m) hmx
    have hbig:¬ (i.bytes * m>2^48):=by
     rw[hbi]
     have:m * (bytesOf en.P e:Int)≤(140737488355328:Nat):=hby
     rw[Int.mul_comm] at this
     omega
    have hcond:¬ ((m<0∨(2:Int)^48<i.bytes * m)∨n<0∨m<n):=by omega
    by_cases hz0:m.toNat * szOf en.P e=0
    ·have hm0:m.toNat=0:=by
      rcases Nat.eq_zero_or_pos m.toNat with h|h
      ·exact h
      ·have:=Nat.mul_pos h hzl.2;omega
     have hm0':m=0:=by omega
     have hn0':n=0:=by omega
     subst hm0';subst hn0'
     have e3:∀ (f:Nat→Value),Array.map f (Array.range 0)=#[]:=fun f=>by apply Array.ext';simp
     simp[execOp,ho,Instr.makeSlice,run_und he,hl',hc',asInt,asIntOf,typeInfo,hi,e1,size_run hie,newRow,Mem.lay]
     rw[e3,e3]
    ·simp only[execOp,ho,Instr.makeSlice,Sem.run_bind,run_und he,Result.andThen_ok,hl',hc',asInt,asIntOf,typeInfo,run_program,hi,Sem.run_pure,e1,e2]
     rw[if_neg (by simp only[Bool.or_eq_true,decide_eq_true_eq];omega)]
     simp only[Sem.run_bind,run_askRoom,Result.andThen_ok,size_run hie,if_neg hz0,zero_run hi hzv,Sem.run_pure,newRow,run_newObj]
     rw[hzs]
     rfl
   ·simp only[Mem.lay,if_true]
    rw[← hrn.length,hlen]
  ·cases h
 ·cases h
theorem append_nothing {P:Program}{w:World}{t u ty e e':TypeId}{n cap c:Nat}{A B:Option Addr}(ht:P.underlying t=some (.slice e))(hu:P.underlying u=some (.slice e'))(hi:(P.info? e).isSome=true)(hnc:n≤cap) :
  (Builtin.append_ #[t,u] ty #[.slice A n cap,.slice B 0 c]).run P w=.ok (.slice A n cap) w:=by
 cases B with
 |none=>cases A<;>simp[Builtin.append_,run_und ht,run_und hu,size_run hi,Builtin.lenOf,hnc,Builtin.firstCells,storeCells]
 |some b=>cases A<;>simp[Builtin.append_,run_und ht,run_und hu,size_run hi,Builtin.lenOf,hnc,Builtin.firstCells,storeCells,loadCells,loadCellsFrom]
theorem append_type {P:Program}{w:World}{t u ty e e':TypeId}(ht:P.underlying t=some (.slice e))(hu:P.underlying u=some (.slice e'))(x y:Value):(Builtin.append_ #[t,u] ty #[x,y]).run P w=(Builtin.append_ #[t,t] ty #[x,y]).run P w:=by
 cases x<;>simp[Builtin.append_,run_und ht,run_und hu]
theorem run_append_room' {P:Program}(w:World)(t ty e e':TypeId)(i:TypeInfo)(ht:P.underlying t=some (.slice e))(hi:P.info? e=some i)
  (g sLen sCap:Nat) (cur:Array Value) (hg:w.heap[g]? = some (.cells cur e' (0,0)))
  (a:Addr) (m c:Nat) (news:List Value) (hl:news.length=m * i.size) (hnews:∀ j u,news[j]? = some u→w.cell? (a.add j)=some u) (h1:∀ u∈news,u.oneCell'=true)
  (hroom:sLen+m≤sCap) (hfit:sLen * i.size+news.length≤cur.size) :
  (Builtin.append_ #[t,t] ty #[.slice (some ⟨g,0,none⟩) sLen sCap,.slice (some a) m c]).run P w =
   .ok (.slice (some ⟨g,0,none⟩) (sLen+m) sCap) (w.setRow g (cur.toList.take (sLen * i.size)++news++cur.toList.drop (sLen * i.size+news.length)).toArray):=by
 have hf:=run_firstCells_some (P:=P) w i.size m a m c news hl hnews
 have hst:=run_storeCells_at P g (sLen * i.size) e' news 0 cur w hg (by simpa using hfit) h1
 simp only[Nat.add_zero] at hst
 simp[Builtin.append_,run_underlying ht,sizeOf,typeInfo,hi,Builtin.lenOf,hroom,hf,Addr.add_lit,hst]
structure AppRun (P:Program)(w:World)(t u ty e:TypeId)(i:TypeInfo)(z:Value)(y:Value)(m:Nat)(news:List Value):Prop where
 nothing:m=0→∀ (A:Option Addr) (n cap:Nat),n≤cap→(Builtin.append_ #[t,u] ty #[.slice A n cap,y]).run P w=.ok (.slice A n cap) w
 room:0<m→∀ (g sLen sCap:Nat) (cur:Array Value) (e':TypeId),w.heap[g]? = some (.cells cur e' (0,0))→sLen+m≤sCap→sLen * i.size+news.length≤cur.size →
  (Builtin.append_ #[t,u] ty #[.slice (some ⟨g,0,none⟩) sLen sCap,y]).run P w=.ok (.slice (some ⟨g,0,none⟩) (sLen+m) sCap) (w.setRow g (cur.toList.take (sLen * i.size)++news++cur.toList.drop (sLen * i.size+news.length)).toArray)
 nil:0<m→(m:Int)≤9223372036854775807→m * i.bytes≤281474976710656 →
  (Builtin.append_ #[t,u] ty #[.slice none 0 0,y]).run P w=.ok (.slice (some ⟨w.heap.size,0,none⟩) m (grownCap w m 0 e)) (w.drew.alloc (.cells (news.toArray++Builtin.zeroCells z.cells (grownCap w m 0 e-m)) e))
 grow:0<m→∀ (b:Addr) (sLen sCap:Nat) (olds:List Value),olds.length=sLen * i.size→(∀ j v,olds[j]? = some v→w.cell? (b.add j)=some v)→sCap<sLen+m→((sLen+m:Nat):Int)≤9223372036854775807 →
  Builtin.nextslicecap (sLen+m) sCap * i.bytes≤281474976710656 →
  (Builtin.append_ #[t,u] ty #[.slice (some b) sLen sCap,y]).run P w =
   .ok (.slice (some ⟨w.heap.size,0,none⟩) (sLen+m) (grownCap w (sLen+m) sCap e)) (w.drew.alloc (.cells (olds.toArray++news.toArray++Builtin.zeroCells z.cells (grownCap w (sLen+m) sCap e-(sLen+m))) e))
theorem appRun_str {P:Program}{w:World}{t u ty e:TypeId}{i:TypeInfo}{z:Value}(ht:P.underlying t=some (.slice e))(hu:P.underlying u=some .string)(hi:P.info? e=some i)(hz:i.zero=some z)(hs1:i.size=1)(s:ByteArray) :
  AppRun P w t u ty e i z (.string s) s.size (Lib.strCells s) where
 nothing:=by
  intro h0 A n cap hnc
  have hf:=Lib.run_firstCells_string (P:=P) (w:=w) i.size s
  rw[h0] at hf
  have h1:Lib.strCells s=[]:=List.eq_nil_of_length_eq_zero (by rw[Lib.strCells_length];exact h0)
  rw[h1] at hf
  cases A<;>simp[Builtin.append_,run_und ht,run_und hu,sizeOf,typeInfo,hi,Builtin.lenOf,h0,hnc,hf,storeCells]
 room:=by
  intro h0 g sLen sCap cur e' hg hroom hfit
  have hf:=Lib.run_firstCells_string (P:=P) (w:=w) i.size s
  have hst:=run_storeCells_at P g (sLen * i.size) e' (Lib.strCells s) 0 cur w hg (by simpa using hfit) (Lib.strCells_oneCell s)
  simp only[Nat.add_zero] at hst
  simp[Builtin.append_,run_underlying ht,run_underlying hu,sizeOf,typeInfo,hi,Builtin.lenOf,hroom,hf,Addr.add_lit,hst]
 nil:=by
  intro h0 h63 h48
  have h:=run_append_nil_string (P:=P) (w:=w) t u ty e i z ht hu hi hz s h0 h63 h48
  have e1:(Lib.strCells s).toArray=s.data.map (fun b=>Value.int .u8 b.toNat):=by apply Array.ext';simp[Lib.strCells]
  rw[h,e1]
 grow:=by
  intro h0 b sLen sCap olds hlo holds hg h63 hfit
  exact Lib.run_append_grow_string (P:=P) (w:=w) t u ty e i z ht hu hi hz b sLen sCap olds hlo holds s hg h63 hfit
theorem appRun_sl {P:Program}{w:World}{t u ty e e':TypeId}{i:TypeInfo}{z:Value}(ht:P.underlying t=some (.slice e))(hu:P.underlying u=some (.slice e'))(hi:P.info? e=some i)(hz:i.zero=some z){B:Option Addr}{m c:Nat}{news:List Value}
  (hl:news.length=m * i.size) (h1:∀ u∈news,u.oneCell'=true) (hB:0<m→∃ a,B=some a∧∀ j v,news[j]? = some v→w.cell? (a.add j)=some v):AppRun P w t u ty e i z (.slice B m c) m news where
 nothing:=by
  intro h0 A n cap hnc
  subst h0
  exact append_nothing ht hu (by rw[hi];rfl) hnc
 room:=by
  intro h0 g sLen sCap cur e0 hg hroom hfit
  obtain⟨a,rfl,hn⟩:=hB h0
  rw[append_type ht hu]
  exact run_append_room' w t ty e e0 i ht hi g sLen sCap cur hg a m c news hl hn h1 hroom hfit
 nil:=by
  intro h0 h63 h48
  obtain⟨a,rfl,hn⟩:=hB h0
  rw[append_type ht hu]
  exact run_append_nil (P:=P) w t ty e i z ht hi hz a m c news hl hn h0 h63 h48
 grow:=by
  intro h0 b sLen sCap olds hlo holds hg h63 hfit
  obtain⟨a,rfl,hn⟩:=hB h0
  rw[append_type ht hu]
  exact run_append_grow (P:=P) w t ty e i z ht hi hz b sLen sCap olds hlo holds a m c news hl hn hg h63 hfit
theorem append_gen {M:Mem}{κ:Nat→Option Nat}{t u ty e:TypeId}(hT:TypesOK en.P t){nl:Option Bool}{sz n m c:Nat}{cells cells':List PV}{vs':List Value}{v w':Value}(ht:en.P.underlying t=some (.slice e))(hsz:szOf en.P e=sz)(hpos:0<sz)
  (hz:(zeroPV en.P e).isSome=true)
  (hlen:n+m≤9223372036854775807) (hby:(n+m) * bytesOf en.P e≤roomB) (hr:RelD M (.sl nl sz n cells) v) (k5:cells'.length=m * sz) (k6:RelL M cells' vs') (hA:∀ i zv,en.P.info? e=some i→i.zero=some zv→AppRun en.P M.w t u ty e i zv w' m vs') (hc:c≠0) (htag:TagOK M κ (.sl nl sz n cells) c v) (hU:∀ g,2≤c→κ c=some g→True) :
  ∃ r M' ex,(Builtin.append_ #[t,u] ty #[v,w']).run en.P M.w=.ok r M'.w∧(ex=none∨∃ g,ex=some g∧2≤c∧κ c=some g)∧Move M M' ex ∧
   RelD M' (.sl (nl.map (· && (m==0))) sz (n+m) (cells++cells')) r∧(Free r∨∃ g,OwnAt M' g sz r∧(M.w.heap.size≤g∨(2≤c∧κ c=some g))):=by
 have hie:=hT.sl e ht
 obtain⟨z,hz⟩:=Option.isSome_iff_exists.1 hz
 obtain⟨i,zv,hi,hzv,hisz,_⟩:=zeroPV_ok hz
 have hs:i.size=sz:=by rw[← hsz];simp[szOf,hi]
 have hb:i.bytes=bytesOf en.P e:=by simp[bytesOf,hi]
 have hzs:zv.cells.size=sz:=by rw[← hs];exact hisz.symm
 have htag':Free v∨(2≤c∧∃ g,κ c=some g∧OwnAt M g sz v):=by
  rcases htag with h|⟨_,_,_,_,he,h⟩
  ·exact (hc h).elim
  ·injection he with _ e2 _ _
   rw[e2]
   exact h
 simp only[RelD] at hr
 obtain⟨A,cap,vs,rfl,h1,h2,h3,h4,h5,h6,h7⟩:=hr
 have hA:=hA i zv hi hzv
 have hlv:vs.length=n * sz:=by rw[← h6.length];exact h5
 have hlv':vs'.length=m * sz:=by rw[← k6.length];exact k5
 have hcl:(cells++cells').length=(n+m) * sz:=by rw[List.length_append,h5,k5,Nat.add_mul]
 rcases Nat.eq_zero_or_pos m with hm0|hm0
 ·
  subst hm0
  have e1:cells'=[]:=List.eq_nil_of_length_eq_zero (by rw[k5];simp)
  subst e1
  refine⟨_,M,none,hA.nothing rfl A n cap h1,.inl rfl,Move.refl M,?_,?_⟩
  ·simp only[RelD,List.append_nil,Nat.add_zero]
   refine⟨A,cap,vs,rfl,h1,h2,?_,h4,h5,h6,h7⟩
   intro b hb
   cases nl with
   |none=>simp at hb
   |some b'=>simp at hb;subst hb;exact h3 _ rfl
  ·rcases htag' with h|⟨h2,g,hk,ho⟩
   ·exact .inl h
   ·exact .inr ⟨g,ho,.inr ⟨h2,hk⟩⟩
 ·
  have hmap:nl.map (· && (m==0))=nl.map fun _=>false:=by
   have:(m==0)=false:=by simp;omega
   rw[this]
   cases nl<;>simp
  have grow:∀ (M1:World) (arr:Array Value) (newCap:Nat),M1.heap.size=M.w.heap.size→Below M.w.heap.size M.w M1→n+m≤newCap→newCap≤maxLen→arr.size=newCap * sz→(∀ (j:Nat) (u:Value),(vs++vs')[j]? = some u→arr[j]? = some u) →
    ∃ M' ex,M'.w=M1.alloc (.cells arr e)∧(ex=none∨∃ g,ex=some g∧2≤c∧κ c=some g)∧Move M M' ex∧RelD M' (.sl (nl.map fun _=>false) sz (n+m) (cells++cells')) (.slice (some ⟨M.w.heap.size,0,none⟩) (n+m) newCap) ∧
     (Free (.slice (some ⟨M.w.heap.size,0,none⟩) (n+m) newCap)∨∃ g,OwnAt M' g sz (.slice (some ⟨M.w.heap.size,0,none⟩) (n+m) newCap)∧(M.w.heap.size≤g∨(2≤c∧κ c=some g))):=by
   intro M1 arr newCap hsz1 hb1 hc1 hc2 hc3 hc4
   have hrel:=rel_new (M:=M) (w1:=M1) hb1 (arr:=arr) (e:=e) (fr:=(0,0)) (sz:=sz) (n:=n+m) (cap:=newCap) (h6.append k6) hcl hc1 hc2 hc4
   refine⟨M.lay (M1.alloc (.cells arr e)) M1.heap.size (vs++vs').length,none,rfl,.inl rfl,Move.lay (below_alloc hb1 _) hb1.size _,?_,.inr ⟨M.w.heap.size,⟨⟨n+m,newCap,arr,e,rfl,?_,hc1,hc2,hc3,?_⟩⟩,.inl (Nat.le_refl _)⟩⟩
   ·rw[hsz1] at hrel ⊢
    simp only[RelD] at hrel ⊢
    obtain⟨A',cc,ws,q1,q2,q3,q4,q5⟩:=hrel
    refine⟨A',cc,ws,q1,q2,q3,?_,q5⟩
    intro bb hbb
    cases nl with
    |none=>simp at hbb
    |some b'=>simp at hbb;subst hbb;exact q4 _ rfl
   ·show (M1.alloc _).heap[M.w.heap.size]? = _
    rw[← hsz1]
    exact heap_alloc_new M1 _
   ·simp only[Mem.lay,hsz1,if_true]
    rw[List.length_append,hlv,hlv',Nat.add_mul]
  have hdrew:Below M.w.heap.size M.w M.w.drew:=(Below.refl _ _).drew
  have hrm:(n+m) * i.bytes≤140737488355328:=by rw[hb];exact hby
  have hml:n+m≤maxLen:=by simp only[maxLen];omega
  rw[hmap]
  by_cases hroom:n+m≤cap
  ·
   have hown:2≤c∧∃ g,κ c=some g∧OwnAt M g sz (.slice A n cap):=by
    rcases htag' with ⟨A',n',e⟩|h
    ·injection e with _ e1 e2
     omega
    ·exact h
   obtain⟨hc2,g,hk,ho⟩:=hown
   obtain⟨n',cap',cur,e0,q1,q2,q3,q4,q5,q6⟩:=ho.ex
   injection q1 with q11 q12 q13
   subst q11;subst q12;subst q13
   have hcs:n * i.size+vs'.length≤cur.size:=by rw[hs,hlv',q5,← Nat.add_mul];exact Nat.mul_le_mul_right _ hroom
   have hrun:=hA.room hm0 g n cap cur e0 q2 hroom hcs
   rw[hs] at hrun hcs
   have hvs:cur.toList.take (n * sz)=vs:=by
    rcases h7 with h7|⟨b',o',e',h7⟩
    ·rw[h7] at hlv ⊢
     simp at hlv
     rw[← hlv]
     rfl
    ·injection e' with e'
     injection e' with e1 e2
     subst e1;subst e2
     apply List.ext_getElem?
     intro j
     by_cases hj:j<n * sz
     ·have hj':vs[j]? = some (vs[j]'(by omega)):=List.getElem?_eq_getElem (by omega)
      have:=(h7 j _ hj').1
      rw[Nat.zero_add,cell_of_row _ _ _ cur e0 (0,0) q2] at this
      rw[List.getElem?_take_of_lt hj,hj',← this]
      simp
     ·rw[List.getElem?_eq_none (by simp;omega),List.getElem?_eq_none (by omega)]
   let M':Mem:=⟨M.w.setRow g (cur.toList.take (n * sz)++vs'++cur.toList.drop (n * sz+vs'.length)).toArray,fun b=>if b=g then (n+m) * sz else M.U b,M.y⟩
   have hnewsz:(cur.toList.take (n * sz)++vs'++cur.toList.drop (n * sz+vs'.length)).length=cur.size:=by simp;omega
   have hcell:∀ j,(M.w.setRow g (cur.toList.take (n * sz)++vs'++cur.toList.drop (n * sz+vs'.length)).toArray).cell? ⟨g,j,none⟩=(cur.toList.take (n * sz)++vs'++cur.toList.drop (n * sz+vs'.length))[j]? := fun j=>by
    rw[cell_setRow_same _ _ _ _ _ _ _ q2]
    simp
   have hmove:Move M M' (some g) :=
    {os:=rfl,tape:=rfl,output:=rfl,size:=by simp[M',World.setRow]
     block:=fun b' hb' hne=>⟨setRow_other _ _ _ _ (fun e=>hne (by rw[e])),by simp only[M'];rw[if_neg (fun e=>hne (by rw[e]))]⟩
     le:=⟨fun b' o' x hx hlt=>by
      by_cases e1:b'=g
      ·subst e1
       rw[q6] at hlt
       refine⟨?_,by simp only[M',if_true];exact Nat.lt_of_lt_of_le hlt (Nat.mul_le_mul_right _ (Nat.le_add_right _ _))⟩
       show (M.w.setRow _ _).cell? _=_
       rw[hcell,List.append_assoc,List.getElem?_append_left (by simp;omega),List.getElem?_take_of_lt hlt]
       rw[cell_of_row _ _ _ cur e0 (0,0) q2] at hx
       simpa using hx
      ·exact⟨(cell_setRow_other _ _ _ _ e1).trans hx,by simp only[M'];rw[if_neg e1];exact hlt⟩,rfl,fun b' k ⟨arr',e',h1',h2'⟩=>by
      by_cases e1:b'=g
      ·subst e1
       rw[q2] at h1'
       injection h1' with h1'
       injection h1' with h1' h3'
       subst h1'
       exact⟨_,e0,setRow_heap _ _ _ _ _ _ q2,by rw[List.size_toArray,hnewsz];exact h2'⟩
      ·exact⟨arr',e',(setRow_other _ _ _ _ e1).trans h1',h2'⟩⟩ }
   refine⟨_,M',some g,hrun,.inr ⟨g,rfl,hc2,hk⟩,hmove,?_,.inr ⟨g,⟨⟨n+m,cap,_,e0,rfl,setRow_heap _ _ _ _ _ _ q2,hroom,q4,by simpa [q5] using hnewsz,by simp[M']⟩⟩,.inr ⟨hc2,hk⟩⟩⟩
   simp only[RelD]
   refine⟨_,cap,vs++vs',rfl,hroom,q4,?_,by simp,hcl,(h6.append k6).mono' hmove.le,.inr ⟨g,0,rfl,?_⟩⟩
   ·intro bb hbb
    cases nl with
    |none=>simp at hbb
    |some b'=>simp at hbb;subst hbb;rfl
   ·intro j x hj
    have hlt:j<(n+m) * sz:=by
     have:=(List.getElem?_eq_some_iff.1 hj).1
     rw[List.length_append,hlv,hlv',← Nat.add_mul] at this
     exact this
    refine⟨?_,by simp only[M',if_true,Nat.zero_add];exact hlt⟩
    show (M.w.setRow _ _).cell? _=_
    rw[Nat.zero_add,hcell,hvs,List.getElem?_append_left (by rw[List.length_append,hlv,hlv',← Nat.add_mul];exact hlt)]
    exact hj
  ·
   have hfit:=growslice_fits (need:=n+m) (old:=cap) (by omega) hrm
   have hge:=grownCap_ge M.w (n+m) cap e
   have hcm:grownCap M.w (n+m) cap e≤maxLen:=grownCap_le_maxLen M.w (n+m) cap e hml
   have harr:∀ (k:Nat),(vs.toArray++vs'.toArray++Builtin.zeroCells zv.cells k).size=(n+m+k) * sz:=fun k=>by
    rw[Array.size_append,Array.size_append,size_zeroCells,hzs]
    simp only[List.size_toArray,hlv,hlv']
    rw[← Nat.add_mul,← Nat.add_mul]
   have hgetj:∀ (k:Nat) (j:Nat) (x:Value),(vs++vs')[j]? = some x→(vs.toArray++vs'.toArray++Builtin.zeroCells zv.cells k)[j]? = some x:=fun k j x hj=>by
    rw[Array.getElem?_append_left (by simp;have:=(List.getElem?_eq_some_iff.1 hj).1;simpa using this)]
    simpa using hj
   cases A with
   |none =>
    have hcap0:cap=0:=h4 rfl
    subst hcap0
    have hn0:n=0:=by omega
    subst hn0
    have hv0:vs=[]:=List.eq_nil_of_length_eq_zero (by rw[hlv];simp)
    subst hv0
    have hrun:=hA.nil hm0 (by omega) (by simp only[Nat.zero_add] at hrm;omega)
    simp only[Nat.zero_add] at hge hcm hml
    obtain⟨M',ex,g1,g2,g3,g4,g5⟩:=grow M.w.drew (vs'.toArray++Builtin.zeroCells zv.cells (grownCap M.w m 0 e-m)) (grownCap M.w m 0 e) rfl hdrew (by omega) hcm (by have:=harr (grownCap M.w m 0 e-m);simp only[Nat.zero_add] at this;rw[show (#[]:Array Value)=([]:List Value).toArray from rfl] at *;simpa [show m+(grownCap M.w m 0 e-m)=grownCap M.w m 0 e by omega] using this) (fun j x hj=>by have:=hgetj (grownCap M.w m 0 e-m) j x hj;simpa using this)
    simp only[Nat.zero_add] at g4 g5 ⊢
    exact⟨_,M',ex,by rw[hrun,g1],g2,g3,g4,g5⟩
   |some ad =>
    have holds:∀ j x,vs[j]? = some x→M.w.cell? (ad.add j)=some x:=by
     rcases h7 with h7|⟨b',o',e',h7⟩
     ·intro j x hj;rw[h7] at hj;simp at hj
     ·injection e' with e'
      subst e'
      intro j x hj
      rw[addr_add]
      exact (h7 j x hj).1
    have hrun:=hA.grow hm0 ad n cap vs (by rw[hs];exact hlv) holds (by omega) (by omega) hfit
    obtain⟨M',ex,g1,g2,g3,g4,g5⟩:=grow M.w.drew _ (grownCap M.w (n+m) cap e) rfl hdrew hge hcm (by have:=harr (grownCap M.w (n+m) cap e-(n+m));rw[show n+m+(grownCap M.w (n+m) cap e-(n+m))=grownCap M.w (n+m) cap e by omega] at this;exact this) (hgetj _)
    exact⟨_,M',ex,by rw[hrun,g1],g2,g3,g4,g5⟩
theorem append_ok {M:Mem}{κ:Nat→Option Nat}{t u ty e e':TypeId}(hT:TypesOK en.P t){nl nl':Option Bool}{sz n m c:Nat}{cells cells':List PV}{v w':Value}(ht:en.P.underlying t=some (.slice e))(hu:en.P.underlying u=some (.slice e'))(hsz:szOf en.P e=sz)(hpos:0<sz)
  (hz:(zeroPV en.P e).isSome=true)
  (hlen:n+m≤9223372036854775807) (hby:(n+m) * bytesOf en.P e≤roomB) (hr:RelD M (.sl nl sz n cells) v) (hr':RelD M (.sl nl' sz m cells') w') (hc:c≠0) (htag:TagOK M κ (.sl nl sz n cells) c v) (hU:∀ g,2≤c→κ c=some g→True) :
  ∃ r M' ex,(Builtin.append_ #[t,u] ty #[v,w']).run en.P M.w=.ok r M'.w∧(ex=none∨∃ g,ex=some g∧2≤c∧κ c=some g)∧Move M M' ex ∧
   RelD M' (.sl (nl.map (· && (m==0))) sz (n+m) (cells++cells')) r∧(Free r∨∃ g,OwnAt M' g sz r∧(M.w.heap.size≤g∨(2≤c∧κ c=some g))):=by
 simp only[RelD] at hr'
 obtain⟨B,c',vs',rfl,k1,k2,k3,k4,k5,k6,k7⟩:=hr'
 have hlv':vs'.length=m * sz:=by rw[← k6.length];exact k5
 refine append_gen hT ht hsz hpos hz hlen hby hr k5 k6 (fun i zv hi hzv=>?_) hc htag hU
 have hs:i.size=sz:=by rw[← hsz];simp[szOf,hi]
 refine appRun_sl ht hu hi hzv (by rw[hs];exact hlv') k6.one fun hm0=>?_
 have hne:vs'≠[]:=by intro e;rw[e] at hlv';have:=Nat.mul_pos hm0 hpos;simp at hlv';omega
 rcases k7 with k7|⟨b,off,rfl,k7⟩
 ·exact (hne k7).elim
 ·exact⟨⟨b,off,none⟩,rfl,fun j u hj=>by rw[addr_add];exact (k7 j u hj).1⟩
theorem append_str {M:Mem}{κ:Nat→Option Nat}{t u ty e:TypeId}(hT:TypesOK en.P t){nl:Option Bool}{n c:Nat}{cells:List PV}{q:List UInt8}{v:Value}(ht:en.P.underlying t=some (.slice e))(hu:en.P.underlying u=some .string)(hsz:szOf en.P e=1)
  (hz:(zeroPV en.P e).isSome=true)
  (hlen:n+q.length≤9223372036854775807) (hby:(n+q.length) * bytesOf en.P e≤roomB) (hr:RelD M (.sl nl 1 n cells) v) (hc:c≠0) (htag:TagOK M κ (.sl nl 1 n cells) c v) (hU:∀ g,2≤c→κ c=some g→True) :
  ∃ r M' ex,(Builtin.append_ #[t,u] ty #[v,.string ⟨q.toArray⟩]).run en.P M.w=.ok r M'.w∧(ex=none∨∃ g,ex=some g∧2≤c∧κ c=some g)∧Move M M' ex ∧
   RelD M' (.sl (nl.map (· && (q.length==0))) 1 (n+q.length) (cells++q.map bytePV)) r∧(Free r∨∃ g,OwnAt M' g 1 r∧(M.w.heap.size≤g∨(2≤c∧κ c=some g))):=by
 refine append_gen (vs':=q.map fun b=>.int .u8 b.toNat) hT ht hsz (by decide) hz hlen hby hr (by simp) (bvs_rel M q) (fun i zv hi hzv=>?_) hc htag hU
 have hs:i.size=1:=by rw[← hsz];simp[szOf,hi]
 exact appRun_str ht hu hi hzv hs ⟨q.toArray⟩
end
end Go.Proofs.YtkpfigikffphdaaGreatDoor
end
