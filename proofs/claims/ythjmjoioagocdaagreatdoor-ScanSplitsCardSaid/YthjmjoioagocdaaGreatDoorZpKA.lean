/-
  Lemmas, part K1: what the claim needs of the texts of wip/tpl.
-/
import Derived.Sort.Walk0
import Derived.Laws.Cells
import Derived.Test.YthjmjoioagocdaaGreatDoorZpPD
import Derived.Test.YthjmjoioagocdaaGreatDoorZpBA
set_option linter.unusedVariables false
set_option linter.unusedSimpArgs false
section
namespace Go.Proofs.YthjmjoioagocdaaGreatDoor
open Go.RowKit
def NGk:Nat:=2
theorem tabs_size {w:World}(h:Tabs w):NGk≤w.heap.size:=by
 have:=(h.2 0 (by decide)).1
 exact World.block_lt_of_cell? w _ this
theorem wokk:WOK NGk Tabs:=by
 intro w w' h hW
 have hc:∀ (b o:Nat),b<NGk→w'.cell? ⟨b,o,none⟩=w.cell? ⟨b,o,none⟩:=by
  intro b o hb
  unfold World.cell?
  simp only[h b hb]
 refine⟨fun c hlt=>?_,fun i hi=>?_⟩
 ·rw[hc _ _ (by decide)];exact hW.1 c hlt
 ·rw[hc _ _ (by decide),hc _ _ (by decide)];exact hW.2 i hi
theorem cond_nat {R:Type}{b:Bool}{x:PV}{k:PV→Option R}:(bif b then k x else none)=(bif b then some x else none).bind k:=by cases b<;>rfl
def p_valid:PFn:=⟨fun xs k=>match xs with|[.str s]=>bif decide (s.length≤1000000) then k (.bool (Lib.validD s)) else none|_=>none,false⟩
theorem ok_valid:FOK NGk Tabs 135 p_valid:=by
 refine fok_calls Tryz.func135 (by kernel_rfl) (by decide) ?_ rfl ?_
 ·intro R xs k
  simp only[p_valid]
  split
  ·exact cond_nat
  ·rfl
 ·intro xs r M vs hW h hr
  simp only[p_valid] at h
  split at h
  ·rename_i s
   rcases hb:decide (s.length≤1000000) with _|_<;>rw[hb] at h
   ·cases h
   ·simp only[cond_true,Option.some.injEq] at h
    subst h
    simp only[decide_eq_true_eq] at hb
    obtain⟨v,rfl,h1⟩:=relT1 hr
    simp only[RelD] at h1
    subst h1
    refine (valid_any s M.w (by omega) hW).mono ?_
    rintro e w' ⟨rfl,hbl⟩
    exact⟨_,rfl,hbl,fun U' _=>rfl⟩
  ·cases h
def p_utf:PFn:=p_valid
theorem ok_utf:FOK NGk Tabs 74 p_utf:=by
 refine fok_calls Tryz.func74 (by kernel_rfl) (by decide) ?_ rfl ?_
 ·intro R xs k
  simp only[p_utf,p_valid]
  split
  ·exact cond_nat
  ·rfl
 ·intro xs r M vs hW h hr
  simp only[p_utf,p_valid] at h
  split at h
  ·rename_i s
   rcases hb:decide (s.length≤1000000) with _|_<;>rw[hb] at h
   ·cases h
   ·simp only[cond_true,Option.some.injEq] at h
    subst h
    simp only[decide_eq_true_eq] at hb
    obtain⟨v,rfl,h1⟩:=relT1 hr
    simp only[RelD] at h1
    subst h1
    refine (utf_any s M.w (by omega)).mono ?_
    rintro e w' ⟨rfl,rfl⟩
    exact⟨_,rfl,Below.refl _ _,fun U' _=>rfl⟩
  ·cases h
def scB (s:Int):Bool:=decide (0≤s)&&decide (s≤6)
def p_sc:PFn:=⟨fun xs k=>match xs with|[.int .i64 s]=>k (.bool (scB s))|_=>none,false⟩
theorem sc_raw1 (l:List (FuncId×PFn))(s:Int)(fuel:Nat):prun (en l) ⟨[],[]⟩ fuel false Tryz.f134 [.int .i64 s]=some (.bool (decide (0≤s)&&decide (s≤6))):=by kernel_rfl
theorem sc_raw2 (l:List (FuncId×PFn))(s:Int)(fuel:Nat):prun (en l) ⟨[],[]⟩ fuel false Tryz.f73 [.int .i64 s]=some (.bool (decide (0≤s)&&decide (s≤6))):=by kernel_rfl
theorem ok_scR:FOK NGk Tabs 134 p_sc:=by
 refine fok wokk allOK_nil (h:=⟨[],[]⟩) Tryz.func134 rfl (by decide) ?_ ?_
 ·intro R xs k
  simp only[p_sc]
  split<;>rfl
 ·intro xs r h
  simp only[p_sc] at h
  split at h
  ·exact⟨0,(sc_raw1 [] _ 0).trans h⟩
  ·cases h
theorem ok_scS:FOK NGk Tabs 73 p_sc:=by
 refine fok wokk allOK_nil (h:=⟨[],[]⟩) Tryz.func73 rfl (by decide) ?_ ?_
 ·intro R xs k
  simp only[p_sc]
  split<;>rfl
 ·intro xs r h
  simp only[p_sc] at h
  split at h
  ·exact⟨0,(sc_raw2 [] _ 0).trans h⟩
  ·cases h
def rightB (a n c:Int)(s:List UInt8):Bool :=
 bif a==0 then n==0&&(c==0&&s==[]) else
 bif a==1 then (n==0||n==1)&&(c==0&&s==[]) else
 bif a==2 then c==0&&s==[] else
 bif a==3 then s==[]&&scB c else
 bif a==4 then n==0&&(c==0&&(decide (s.length≤200)&&Lib.validD s)) else
 bif a==5 then n==0&&(c==0&&decide (s.length≤200)) else false
def utO {R:Type}(s:List UInt8)(k:Bool→Option R):Option R:=bif decide (s.length≤1000000) then k (Lib.validD s) else none
noncomputable def lRight:List (FuncId×PFn):=[(134,p_sc),(135,p_valid)]
def eq4 (a a' n n' c c':Int)(s s':List UInt8):Bool:=a==a'&&(n==n'&&(c==c'&&(s==s'&&true)))
def rightBody (a n c:Int)(s:List UInt8):Option PV :=
 bif a==0 then some (.bool (eq4 a 0 n 0 c 0 s [])) else
 bif a==1 then some (.bool (eq4 a 1 n (IntKind.i64.wrap (BitVec.ofInt IntKind.i64.bits n &&& BitVec.ofInt IntKind.i64.bits 1).toNat) c 0 s [])) else
 bif a==2 then some (.bool (eq4 a 2 n n c 0 s [])) else
 bif a==3 then bif eq4 a 3 n n c c s [] then some (.bool (scB c)) else some (.bool false) else
 bif a==4 then bif eq4 a 4 n 0 c 0 s s&&decide ((s.length:Int)≤200) then utO s fun b=>some (.bool b) else some (.bool false) else
 bif a==5 then some (.bool (eq4 a 5 n 0 c 0 s s&&decide ((s.length:Int)≤200))) else some (.bool false)
theorem vright_raw (a n c:Int)(s:List UInt8):prun (en lRight) ⟨[],[]⟩ 0 false Tryz.f109 [.agg [.int .i64 a,.int .i64 n,.int .i64 c,.str s]]=rightBody a n c s:=by kernel_rfl
theorem and_one (n:Int):IntKind.i64.wrap (BitVec.ofInt IntKind.i64.bits n &&& BitVec.ofInt IntKind.i64.bits 1).toNat=n%2:=by
 have h:(BitVec.ofInt IntKind.i64.bits n &&& BitVec.ofInt IntKind.i64.bits 1).toNat=(n%2).toNat:=by
  rw[BitVec.toNat_and]
  have h1:(BitVec.ofInt IntKind.i64.bits 1).toNat=1:=rfl
  have h2:(BitVec.ofInt IntKind.i64.bits n).toNat=(n%18446744073709551616).toNat:=BitVec.toNat_ofInt ..
  rw[h1,h2,Nat.and_one_is_mod]
  omega
 rw[h,wrapI_of (by omega) (by omega)]
 omega
theorem right_body (a n c:Int) (s:List UInt8) (hs:s.length≤1000000):rightBody a n c s=some (.bool (rightB a n c s)):=by
  unfold rightBody rightB eq4
  simp only [Bool.and_true]
  have hl:decide ((s.length:Int)≤200)=decide (s.length≤200):=by congr 1;simp only [eq_iff_iff];omega
  have hn:(n == n % 2)=(n == 0 || n == 1):=by
    rw [Bool.eq_iff_iff]
    simp only [Bool.or_eq_true,beq_iff_eq]
    omega
  rw [and_one,hn,hl]
  by_cases h0:a=0
  · subst h0;rfl
  · rw [show (a == 0)=false by simpa using h0]
    by_cases h1:a=1
    · subst h1;rfl
    · rw [show (a == 1)=false by simpa using h1]
      by_cases h2:a=2
      · subst h2;simp
      · rw [show (a == 2)=false by simpa using h2]
        by_cases h3:a=3
        · subst h3
          simp only [cond_false,cond_true,beq_self_eq_true,Bool.true_and]
          cases s == []<;>rfl
        · rw [show (a == 3)=false by simpa using h3]
          by_cases h4:a=4
          · subst h4
            simp only [cond_false,cond_true,beq_self_eq_true,Bool.true_and,Bool.and_true]
            unfold utO
            rw [decide_eq_true hs]
            cases n == 0<;>cases c == 0<;>cases decide (s.length≤200)<;>rfl
          · rw [show (a == 4)=false by simpa using h4]
            by_cases h5:a=5
            · subst h5
              simp only [cond_false,cond_true,beq_self_eq_true,Bool.true_and,Bool.and_true]
              cases n == 0<;>cases c == 0<;>rfl
            · rw [show (a == 5)=false by simpa using h5];rfl
def p_rightV:PFn:=⟨fun xs k=>match xs with|[.agg [.int .i64 a,.int .i64 n,.int .i64 c,.str s]]=>bif decide (s.length≤1000000) then k (.bool (rightB a n c s)) else none|_=>none,false⟩
theorem ok_rightV:FOK NGk Tabs 109 p_rightV:=by
 refine fok wokk (allOK_cons ok_scR (allOK_cons ok_valid allOK_nil)) (h:=⟨[],[]⟩) Tryz.func109 rfl (by decide) ?_ ?_
 ·intro R xs k
  simp only[p_rightV]
  split
  ·exact cond_nat
  ·rfl
 ·intro xs r h
  simp only[p_rightV] at h
  split at h
  ·rename_i a n c s
   rcases hb:decide (s.length≤1000000) with _|_<;>rw[hb] at h
   ·cases h
   ·simp only[decide_eq_true_eq] at hb
    exact⟨0,(vright_raw a n c s).trans ((right_body a n c s hb).trans h)⟩
  ·cases h
noncomputable def lRRight:List (FuncId×PFn):=[(73,p_sc),(74,p_utf)]
def rr4 (a n c:Int)(s:List UInt8):Option PV :=
 bif !decide (200<(s.length:Int))&&a==4 then utO s fun b=>bif !b then some (.bool false) else some (.bool (eq4 a a n 0 c 0 s s))
 else bif !decide (200<(s.length:Int))&&a==4 then none else bif decide (200<(s.length:Int))||(a==4&&false) then some (.bool false) else some (.bool (eq4 a a n 0 c 0 s s))
def rrightBody (a n c:Int)(s:List UInt8):Option PV :=
 bif a==0 then some (.bool (eq4 a a n 0 c 0 s [])) else
 bif a==1 then bif !(n==0)&&!(n==1) then some (.bool false) else some (.bool (eq4 a a n n c 0 s [])) else
 bif a==2 then some (.bool (eq4 a a n n c 0 s [])) else
 bif a==3 then bif !scB c then some (.bool false) else some (.bool (eq4 a a n n c c s [])) else
 bif a==4 then bif a==4 then rr4 a n c s else some (.bool false) else
 bif a==5 then rr4 a n c s else some (.bool false)
theorem rright_raw (a n c:Int)(s:List UInt8):prun (en lRRight) ⟨[],[]⟩ 0 false Tryz.f44 [.agg [.int .i64 a,.int .i64 n,.int .i64 c,.str s]]=rrightBody a n c s:=by kernel_rfl
theorem rright_body (a n c:Int) (s:List UInt8) (hs:s.length≤1000000):rrightBody a n c s=some (.bool (rightB a n c s)):=by
  unfold rrightBody rightB rr4 utO eq4
  simp only [Bool.and_true]
  have hl:decide (200 < (s.length:Int))=!decide (s.length≤200):=by
    rw [Bool.eq_iff_iff];simp;omega
  rw [hl,decide_eq_true hs]
  by_cases h0:a=0
  · subst h0;rfl
  · rw [show (a == 0)=false by simpa using h0]
    by_cases h1:a=1
    · subst h1
      simp only [cond_false,cond_true,beq_self_eq_true,Bool.true_and]
      cases n == 0<;>cases n == 1<;>rfl
    · rw [show (a == 1)=false by simpa using h1]
      by_cases h2:a=2
      · subst h2;simp
      · rw [show (a == 2)=false by simpa using h2]
        by_cases h3:a=3
        · subst h3
          simp only [cond_false,cond_true,beq_self_eq_true,Bool.true_and]
          cases s == []<;>cases scB c<;>rfl
        · rw [show (a == 3)=false by simpa using h3]
          by_cases h4:a=4
          · subst h4
            simp only [cond_false,cond_true,beq_self_eq_true,Bool.true_and,Bool.and_true]
            cases n == 0<;>cases c == 0<;>cases decide (s.length≤200)<;>cases Lib.validD s<;>rfl
          · rw [show (a == 4)=false by simpa using h4]
            by_cases h5:a=5
            · subst h5
              simp only [cond_false,cond_true,beq_self_eq_true,Bool.true_and,Bool.and_true]
              cases n == 0<;>cases c == 0<;>cases decide (s.length≤200)<;>rfl
            · rw [show (a == 5)=false by simpa using h5];rfl
theorem ok_rightR:FOK NGk Tabs 44 p_rightV:=by
 refine fok wokk (allOK_cons ok_scS (allOK_cons ok_utf allOK_nil)) (h:=⟨[],[]⟩) Tryz.func44 rfl (by decide) ?_ ?_
 ·intro R xs k
  simp only[p_rightV]
  split
  ·exact cond_nat
  ·rfl
 ·intro xs r h
  simp only[p_rightV] at h
  split at h
  ·rename_i a n c s
   rcases hb:decide (s.length≤1000000) with _|_<;>rw[hb] at h
   ·cases h
   ·simp only[decide_eq_true_eq] at hb
    exact⟨0,(rright_raw a n c s).trans ((rright_body a n c s hb).trans h)⟩
  ·cases h
def valA (a n c:Int)(s:List UInt8):PV:=.agg [.int .i64 a,.int .i64 n,.int .i64 c,.str s]
def plainA (a n c:Int)(s:List UInt8):PV:=valA (bif rightB a n c s then a else 0) (bif rightB a n c s then n else 0) (bif rightB a n c s then c else 0) (bif rightB a n c s then s else [])
theorem plain_raw (a n c:Int)(s:List UInt8):prun (en [(44,p_rightV)]) ⟨[],[]⟩ 0 false Tryz.f76 [.agg [.int .i64 a,.int .i64 n,.int .i64 c,.str s]] =
  bif decide (s.length≤1000000) then bif rightB a n c s then some (valA a n c s) else some (valA 0 0 0 []) else none:=by kernel_rfl
def p_plain:PFn:=⟨fun xs k=>match xs with|[.agg [.int .i64 a,.int .i64 n,.int .i64 c,.str s]]=>bif decide (s.length≤1000000) then k (plainA a n c s) else none|_=>none,false⟩
theorem ok_plain:FOK NGk Tabs 76 p_plain:=by
 refine fok wokk (allOK_cons ok_rightR allOK_nil) (h:=⟨[],[]⟩) Tryz.func76 rfl (by decide) ?_ ?_
 ·intro R xs k
  simp only[p_plain]
  split
  ·exact cond_nat
  ·rfl
 ·intro xs r h
  simp only[p_plain] at h
  split at h
  ·rename_i a n c s
   rcases hb:decide (s.length≤1000000) with _|_<;>rw[hb] at h
   ·cases h
   ·refine⟨0,(plain_raw a n c s).trans ?_⟩
    rw[hb,← h]
    unfold plainA
    cases rightB a n c s<;>rfl
  ·cases h
def bC (l:List UInt8):List PV:=l.map bytePV
def byC:List PV→Option (List UInt8)
 |[]=>some []
 | .int .u8 d::l=>if 0≤d∧d<256 then (byC l).map fun t=>UInt8.ofNat d.toNat::t else none
 |_=>none
theorem byC_bC:∀ (l:List UInt8),byC (bC l)=some l
 |[]=>rfl
 |c::l=>by
  have hc:=c.toNat_lt
  show (if 0≤(c.toNat:Int)∧(c.toNat:Int)<256 then (byC (bC l)).map fun t=>UInt8.ofNat (c.toNat:Int).toNat::t else none)=_
  rw[if_pos (by omega),byC_bC l]
  simp
theorem byC_inv:∀ {c:List PV} {l:List UInt8},byC c=some l→c=bC l
 |[],l,h=>by simp[byC] at h;subst h;rfl
 |x::c,l,h=>by
  unfold byC at h
  split at h
  ·rename_i e;cases e
  ·rename_i d l' e
   injection e with e1 e2
   subst e1 e2
   split at h
   ·rename_i hd
    obtain⟨t,ht,rfl⟩:=Option.map_eq_some_iff.1 h
    rw[byC_inv ht]
    show PV.int .u8 d::bC t=bytePV (UInt8.ofNat d.toNat)::bC t
    congr 1
    unfold bytePV
    congr 1
    simp
    omega
   ·cases h
  ·cases h
def decY (n:Nat)(c:List PV):Option (List UInt8):=(byC c).bind fun l=>if n=l.length then some l else none
theorem decY_bC (l:List UInt8):decY l.length (bC l)=some l:=by unfold decY;rw[byC_bC];simp
theorem decY_inv {n:Nat}{c:List PV}{l:List UInt8}(h:decY n c=some l):n=l.length∧c=bC l:=by
 unfold decY at h
 obtain⟨m,hm,h⟩:=Option.bind_eq_some_iff.1 h
 split at h
 ·rename_i hl
  injection h with h
  subst h
  exact⟨hl,byC_inv hm⟩
 ·cases h
def roomY {R:Type}(l m:Nat)(x:Option R):Option R:=bif decide (l+m≤9223372036854775807)&&decide ((l+m) * 1≤140737488355328) then x else none
theorem roomY_eq {R:Type}{l m:Nat}{x:Option R}(h:l+m≤1000000):roomY l m x=x:=by
 unfold roomY
 exact cond_t (by rw[decide_eq_true (by omega),decide_eq_true (by omega)];rfl)
def untL:List UInt8→List UInt8→Option (List UInt8×List UInt8)
 |[],_=>none
 |c::t,acc =>
  if c=0 then
   match t with
   |[]=>none
   |d::t'=>if d=255 then untL t' (acc++[0]) else if d=1 then some (acc,t') else none
  else untL t (acc++[c])
theorem pbytes_bC:∀ (l:List UInt8),pbytes (bC l)=some l
 |[]=>rfl
 |c::l=>by
  have hc:=c.toNat_lt
  show pbytes (PV.int .u8 (c.toNat:Int)::bC l)=_
  simp only[pbytes,pbytes_bC l]
  have:PV.asInt .u8 (PV.int .u8 (c.toNat:Int))=some (c.toNat:Int):=rfl
  rw[this]
  simp
theorem bC_snoc (l:List UInt8)(c:UInt8):bC l++[PV.int .u8 (c.toNat:Int)]=bC (l++[c]):=by simp[bC,bytePV]
theorem bindY_nat {R:Type}{a:Option (List UInt8)}{g:List UInt8→Bool}{v:List UInt8→PV}{k:PV→Option R} :
  (a.bind fun A=>bif g A then k (v A) else none)=(a.bind fun A=>bif g A then some (v A) else none).bind k:=by
 cases a with
 |none=>rfl
 |some a=>exact cond_nat
theorem bindY_inv {a:Option (List UInt8)}{g:List UInt8→Bool}{v:List UInt8→PV}{r:PV}(h:(a.bind fun A=>bif g A then some (v A) else none)=some r):∃ A,a=some A∧g A=true∧r=v A:=by
 obtain⟨A,h1,h⟩:=Option.bind_eq_some_iff.1 h
 cases hg:g A<;>rw[hg] at h
 ·cases h
 ·injection h with h
  exact⟨A,h1,hg,h.symm⟩
end Go.Proofs.YthjmjoioagocdaaGreatDoor
namespace Go.Proofs.YthjmjoioagocdaaGreatDoor
open Go.RowKit
def be (l:List UInt8):Nat:=l.foldl (fun u c=>u * 256+c.toNat) 0
theorem be_snoc (l:List UInt8)(c:UInt8):be (l++[c])=be l * 256+c.toNat:=by simp[be]
theorem be_lt:∀ (n:Nat) (l:List UInt8),l.length=n→be l<256^n:=by
 intro n
 induction n with
 |zero=>intro l h;rw[List.length_eq_zero_iff.1 h];decide
 |succ n ih =>
  intro l h
  have hne:l≠[]:=by intro e;rw[e] at h;cases h
  obtain⟨t,c,rfl⟩:∃ t c,l=t++[c]:=⟨l.dropLast,l.getLast hne,(List.dropLast_concat_getLast hne).symm⟩
  have hl:t.length=n:=by simpa using h
  have:=ih t hl
  have hc:=c.toNat_lt
  rw[be_snoc,Nat.pow_succ]
  omega
end Go.Proofs.YthjmjoioagocdaaGreatDoor
namespace Go.Proofs.YthjmjoioagocdaaGreatDoor
open Go.RowKit
theorem clone_raw (v:Bool)(l0:Nat)(c0:List PV):prun (en []) ⟨[],[]⟩ 0 false Tryz.f80 [.sl (some v) 1 l0 c0] =
  bif v then some (.sl (some true) 1 0 []) else roomY 0 l0 (some (.sl ((some false).map (· && (l0==0))) 1 (0+l0) ([]++c0))):=by kernel_rfl
def p_clone:PFn:=⟨fun xs k=>match xs with|[.sl (some v) 1 n c]=>(decY n c).bind fun l=>bif decide (l.length≤100000) then k (.sl (some v) 1 (bif v then 0 else l.length) (bC (bif v then [] else l))) else none|_=>none,false⟩
theorem ok_clone:FOK NGk Tabs 80 p_clone:=by
 refine fok wokk allOK_nil (h:=⟨[],[]⟩) Tryz.func80 rfl (by decide) ?_ ?_
 ·intro R xs k
  simp only[p_clone]
  split
  ·exact bindY_nat
  ·rfl
 ·intro xs r h
  simp only[p_clone] at h
  split at h
  ·rename_i v n c
   obtain⟨l,h1,hg,rfl⟩:=bindY_inv h
   obtain⟨rfl,rfl⟩:=decY_inv h1
   simp only[decide_eq_true_eq] at hg
   refine⟨0,(clone_raw v _ _).trans ?_⟩
   cases v
   ·rw[cond_false,roomY_eq (by omega),Nat.zero_add]
    simp
   ·rfl
  ·cases h
end Go.Proofs.YthjmjoioagocdaaGreatDoor
namespace Go.Proofs.YthjmjoioagocdaaGreatDoor
open Go.RowKit
def numI (a b:Int):Int:=bif decide (a<b) then -1 else bif decide (b<a) then 1 else 0
theorem numI_lt {a b:Int}(h:a<b):numI a b=-1:=by unfold numI;rw[decide_eq_true h];rfl
theorem numI_gt {a b:Int}(h:b<a):numI a b=1:=by unfold numI;rw[decide_eq_false (by omega),decide_eq_true h];rfl
theorem numI_self (a:Int):numI a a=0:=by unfold numI;rw[decide_eq_false (by omega)];rfl
def txtL:List UInt8→List UInt8→Int
 |[],[]=>0
 |[],_::_=>-1
 |_::_,[]=>1
 |a::x,b::y=>bif a==b then txtL x y else numI (a.toNat:Int) (b.toNat:Int)
def ixS {R:Type}(s:List UInt8)(i:Int)(K:UInt8→Option R):Option R:=bif decide (0≤i)&&decide (i<(s.length:Int)) then s[i.toNat]?.bind K else none
theorem ixS_eq {R:Type}{s:List UInt8}{i:Nat}{c:UInt8}{K:UInt8→Option R}(h:s[i]? = some c):ixS s (i:Int) K=K c:=by
 have:=(List.getElem?_eq_some_iff.1 h).1
 unfold ixS
 rw[cond_t (by rw[decide_eq_true (by omega),decide_eq_true (by omega)];rfl),Int.toNat_natCast,h]
 rfl
end Go.Proofs.YthjmjoioagocdaaGreatDoor
namespace Go.Proofs.YthjmjoioagocdaaGreatDoor
open Go.RowKit
abbrev V4:=Val
def V4.cs (v:Val):List PV:=[.int .i64 v.kind,.int .i64 v.n,.int .i64 v.scale,.str v.s]
def valsC (vs:List V4):List PV:=vs.flatMap V4.cs
theorem vals_at:∀ {vs:List V4} {i:Nat} {v:V4},vs[i]? = some v→((valsC vs).drop (i * 4)).take 4=V4.cs v
 |v::vs,0,w,h=>by
  simp only[List.getElem?_cons_zero,Option.some.injEq] at h
  subst h
  rfl
 |v::vs,i+1,w,h=>by
  simp only[List.getElem?_cons_succ] at h
  have ih:=vals_at h
  have e:(valsC (v::vs)).drop ((i+1) * 4)=(valsC vs).drop (i * 4):=by
   show (V4.cs v++valsC vs).drop _=_
   rw[show (i+1) * 4=(V4.cs v).length+i * 4 by simp only[V4.cs,List.length_cons,List.length_nil];omega,← List.drop_drop,List.drop_left]
  rw[e,ih]
def ixV {R:Type}(len:Nat)(c:List PV)(i:Int)(K:Int→Int→Int→List UInt8→Option R):Option R :=
 bif decide (0≤i)&&decide (i<(len:Int)) then
  ((c.drop (i.toNat * 4)).take 4).head?.bind fun v=>(PV.asInt .i64 v).bind fun a=>((c.drop (i.toNat * 4)).take 4).tail.head?.bind fun v=>(PV.asInt .i64 v).bind fun n =>
  ((c.drop (i.toNat * 4)).take 4).tail.tail.head?.bind fun v=>(PV.asInt .i64 v).bind fun b=>((c.drop (i.toNat * 4)).take 4).tail.tail.tail.head?.bind fun v=>v.asStr.bind fun s=>K a n b s else none
theorem ixV_eq {R:Type}{vs:List V4}{i:Nat}{v:V4}{K:Int→Int→Int→List UInt8→Option R}(h:vs[i]? = some v):ixV vs.length (valsC vs) (i:Int) K=K v.kind v.n v.scale v.s:=by
 have:=(List.getElem?_eq_some_iff.1 h).1
 unfold ixV
 rw[cond_t (by rw[decide_eq_true (by omega),decide_eq_true (by omega)];rfl),Int.toNat_natCast,vals_at h]
 rfl
def hLo:Hints:=⟨[],[(0,⟨[(5,false),(6,false),(7,false)],[]⟩)]⟩
end Go.Proofs.YthjmjoioagocdaaGreatDoor
namespace Go.Proofs.YthjmjoioagocdaaGreatDoor
open Go.RowKit
theorem fok_new {NG:Nat}{W:World→Prop}{f:FuncId}{fn:Func}(hf:Tryz.prog.funcs[f]? = some fn)(hb:fn.body.isSome=true)(hname:fn.name ≠ "runtime.NumGoroutine"){p:PFn}(hn:p.nat)(ho:p.own=false)
  (hrun:∀ (xs:List PV) (r:PV) (M:Mem) (vs:List Value),W M.w→p.F xs (R:=PV) some=some r→RelT M xs vs→Calls Tryz.prog f vs.toArray M.w fun e w'=>∃ v,e=.returned v∧Below M.w.heap.size M.w w' ∧
   ∀ U',(∀ b o,M.w.heap.size≤b→o<18446744073709551616→o<U' b)→RelD ⟨w',U',M.y⟩ r v):FOK NG W f p where
 nat:=hn
 call:=by
  intro M xs vs r hW hng hg hr hF
  have hb':¬ fn.body=none:=by intro e;rw[e] at hb;cases hb
  refine .inr ⟨?_,(hrun xs r M vs hW hF hr).mono ?_⟩
  ·show (callFunc f vs.toArray).run Tryz.prog M.w=_
   simp[callFunc,hf]
   rw[if_neg hname,if_neg hb']
  ·rintro e w' ⟨v,rfl,h1,h2⟩
   refine⟨v,rfl,fun b=>if b<M.w.heap.size then M.U b else 18446744073709551616,Move.mk0 h1 fun b hb=>if_pos hb,h2 _ ?_,fun h=>by rw[ho] at h;cases h⟩
   intro b o hb ho
   rw[if_neg (by omega)]
   exact ho
theorem rel_bvs (M:Mem):∀ (l:List UInt8),RelL M (bC l) (bvs l)
 |[]=>rfl
 |c::l=>by
  show RelL M (bytePV c::bC l) (bv c::bvs l)
  simp only[RelL,RelD]
  exact⟨_,_,rfl,rfl,rfl,rel_bvs M l⟩
theorem rel_own {w':World}{y:Handed}{U':Nat→Nat}{B:Nat}{e:TypeId}{v:Value}{l:List UInt8}(h:w'.ownsRow B e 1 v l.length (bvs l))(hU:∀ b o,B≤b→o<18446744073709551616→o<U' b) :
  RelD ⟨w',U',y⟩ (.sl none 1 l.length (bC l)) v:=by
 simp only[RelD]
 rcases h.2 with ⟨rfl,hx⟩|⟨g,cap,cur,rfl,hg,hh,hnc,hcm,hsz,ht⟩
 ·have:l=[]:=List.length_eq_zero_iff.1 hx
  subst this
  refine⟨none,0,[],rfl,Nat.le_refl _,Nat.zero_le _,?_,fun _=>rfl,rfl,rfl,Or.inl rfl⟩
  intro b hb
  cases hb
 ·have hlt:=(h.lt g rfl).2
  refine⟨_,cap,bvs l,rfl,hnc,hcm,?_,?_,?_,rel_bvs _ l,Or.inr ⟨g,0,rfl,fun j u hu=>⟨?_,?_⟩⟩⟩
  ·intro b hb;cases hb
  ·intro e;cases e
  ·simp[bC]
  ·have:=h.cells (g:=g) rfl j u hu
   rw[← this]
   congr 1
   unfold Addr.add
   split<;>simp_all
  ·refine hU g _ hg ?_
   have:j<(bvs l).length:=(List.getElem?_eq_some_iff.1 hu).1
   rw[bvs_length] at this
   unfold maxLen at hcm
   omega
end Go.Proofs.YthjmjoioagocdaaGreatDoor
namespace Go.Proofs.YthjmjoioagocdaaGreatDoor
open Go.RowKit
theorem relL_vals {M:Mem}:∀ (vs:List Val) (us:List Value),RelL M (valsC vs) us→us=vcs vs
 |[],us,h=>by
  have h:RelL M [] us:=h
  simp only[RelL] at h
  exact h
 |v::vs,us,h=>by
  have h:RelL M (.int .i64 v.kind::.int .i64 v.n::.int .i64 v.scale::.str v.s::valsC vs) us:=h
  simp only[RelL,RelD] at h
  obtain⟨_,_,rfl,_,rfl,_,_,rfl,_,rfl,_,_,rfl,_,rfl,_,us',rfl,_,rfl,hq⟩:=h
  have e:us'=vcs vs:=relL_vals vs us' hq
  rw[e]
  try rfl
theorem sl_vals {M:Mem}{nl:Option Bool}{vs:List Val}{v:Value}(h:RelD M (.sl nl 4 vs.length (valsC vs)) v):∃ A c,v=.slice A vs.length c∧Sl M.w 4 A vs.length c (vcs vs):=by
 simp only[RelD] at h
 obtain⟨A,c,us,rfl,hnc,hcm,_,_,hl,hr,hx⟩:=h
 obtain rfl:=relL_vals _ _ hr
 refine⟨A,c,rfl,vcs_length vs,hnc,hcm,fun hn=>?_⟩
 rcases hx with hx|⟨b,o,rfl,hc⟩
 ·have:=vcs_length vs
  rw[hx] at this
  simp only[List.length_nil] at this
  omega
 ·refine⟨b,o,rfl,?_,fun j u hu=>(hc j u hu).1⟩
  have h0:0<(vcs vs).length:=by rw[vcs_length];omega
  have:(vcs vs)[0]? = some ((vcs vs)[0]'h0):=List.getElem?_eq_getElem h0
  exact World.block_lt_of_cell? M.w _ (hc 0 _ this).1
def vlC:List PV→Option (List Val)
 |[]=>some []
 | .int .i64 a::.int .i64 n::.int .i64 c::.str s::l=>(vlC l).map fun t=>⟨a,n,c,s⟩::t
 |_=>none
theorem vlC_vals:∀ (vs:List Val),vlC (valsC vs)=some vs
 |[]=>rfl
 |v::vs=>by
  show (vlC (valsC vs)).map (fun t=>(⟨v.kind,v.n,v.scale,v.s⟩:Val)::t)=_
  rw[vlC_vals vs];rfl
theorem vlC_inv:∀ {c:List PV} {vs:List Val},vlC c=some vs→c=valsC vs
 |c,vs,h=>by
  unfold vlC at h
  split at h
  ·injection h with h;subst h;rfl
  ·rename_i a n b s l
   obtain⟨t,ht,rfl⟩:=Option.map_eq_some_iff.1 h
   rw[vlC_inv ht];rfl
  ·cases h
def decV (n:Nat)(c:List PV):Option (List Val):=(vlC c).bind fun vs=>if n=vs.length then some vs else none
theorem decV_vals (vs:List Val):decV vs.length (valsC vs)=some vs:=by unfold decV;rw[vlC_vals];simp
theorem decV_inv {n:Nat}{c:List PV}{vs:List Val}(h:decV n c=some vs):n=vs.length∧c=valsC vs:=by
 unfold decV at h
 obtain⟨m,hm,h⟩:=Option.bind_eq_some_iff.1 h
 split at h
 ·rename_i hl
  injection h with h
  subst h
  exact⟨hl,vlC_inv hm⟩
 ·cases h
def p_KeysPut:PFn:=⟨fun xs k=>match xs with|[.sl _ 4 n c]=>(decV n c).bind fun vs=>bif decide (vs.length≤100000) then k (.sl none 1 (encs vs).length (bC (encs vs))) else none|_=>none,false⟩
theorem ok_KeysPut:FOK NGk Tabs 49 p_KeysPut:=by
 refine fok_new Tryz.func49 (by kernel_rfl) (by decide) ?_ rfl ?_
 ·intro R xs k
  simp only[p_KeysPut]
  split
  ·rename_i n c
   cases decV n c with
   |none=>rfl
   |some vs=>exact cond_nat
  ·rfl
 ·intro xs r M vs hW h hr
  simp only[p_KeysPut] at h
  split at h
  ·rename_i nl n c
   obtain⟨ws,h1,g⟩:=Option.bind_eq_some_iff.1 h
   obtain⟨rfl,rfl⟩:=decV_inv h1
   rcases hb:decide (ws.length≤100000) with _|_<;>rw[hb] at g
   ·cases g
   ·simp only[cond_true,Option.some.injEq] at g
    subst g
    simp only[decide_eq_true_eq] at hb
    obtain⟨v,rfl,h2⟩:=relT1 hr
    obtain⟨A,c,rfl,hs⟩:=sl_vals h2
    refine (keysPut_any M.w A ws.length c ws hs hb hW).mono ?_
    rintro e w' ⟨A',c',rfl,ho,_,hbl⟩
    exact⟨_,rfl,hbl,fun U' hU=>rel_own ho hU⟩
  ·cases h
end Go.Proofs.YthjmjoioagocdaaGreatDoor
end
section
namespace Go.Proofs.YthjmjoioagocdaaGreatDoor
open Go.RowKit
theorem be_inj:∀ (n:Nat) (a b:List UInt8),a.length=n→b.length=n→be a=be b→a=b:=by
 intro n
 induction n with
 |zero=>intro a b ha hb _;rw[List.length_eq_zero_iff.1 ha,List.length_eq_zero_iff.1 hb]
 |succ n ih =>
  intro a b ha hb h
  have ea:a≠[]:=by intro e;rw[e] at ha;cases ha
  have eb:b≠[]:=by intro e;rw[e] at hb;cases hb
  obtain⟨s,c,rfl⟩:∃ t c,a=t++[c]:=⟨a.dropLast,a.getLast ea,(List.dropLast_concat_getLast ea).symm⟩
  obtain⟨t,d,rfl⟩:∃ t c,b=t++[c]:=⟨b.dropLast,b.getLast eb,(List.dropLast_concat_getLast eb).symm⟩
  rw[be_snoc,be_snoc] at h
  have hc:=c.toNat_lt
  have hd:=d.toNat_lt
  have e1:be s=be t:=by omega
  have e2:c.toNat=d.toNat:=by omega
  rw[ih s t (by simpa using ha) (by simpa using hb) e1,UInt8.toNat_inj.1 e2]
theorem deTo_be (l:List UInt8)(k:Nat):deTo l k=be (l.take k):=rfl
theorem be8_back {r:List UInt8}(h:8≤r.length):be8 ((be (r.take 8):Int)-9223372036854775808)=r.take 8:=by
 have hl:(r.take 8).length=8:=by rw[List.length_take];omega
 have hlt:be (r.take 8)<18446744073709551616:=by simpa using be_lt 8 _ hl
 have e:flipN ((be (r.take 8):Int)-9223372036854775808)=be (r.take 8):=by unfold flipN;omega
 unfold be8
 rw[e]
 refine be_inj 8 _ _ (beTo_length _ _) hl ?_
 have:=deTo_beTo (be (r.take 8)) hlt []
 rw[deTo_be,List.append_nil,List.take_of_length_le (by rw[beTo_length];exact Nat.le_refl _)] at this
 exact this
theorem untext_inv:∀ (k:Nat) (l s r:List UInt8),l.length≤k→untext l=some (s,r)→l=escTo s++0::1::r:=by
 intro k
 induction k with
 |zero=>intro l s r hl h;obtain rfl:l=[]:=List.length_eq_zero_iff.1 (by omega);simp[untext] at h
 |succ k ih =>
  intro l s r hl h
  match l,hl,h with
  |[],_,h=>simp[untext] at h
  |[c],_,h=>simp[untext] at h
  |c::d::t,hl,h =>
   simp only[List.length_cons] at hl
   rw[untext] at h
   split at h
   ·rename_i hc
    subst hc
    split at h
    ·rename_i hd
     subst hd
     obtain⟨p,hp,he⟩:=Option.map_eq_some_iff.1 h
     simp only[Prod.mk.injEq] at he
     obtain⟨rfl,rfl⟩:=he
     rw[ih t p.1 p.2 (by omega) hp,escTo,if_pos rfl]
     rfl
    ·split at h
     ·rename_i hd
      subst hd
      simp only[Option.some.injEq,Prod.mk.injEq] at h
      obtain⟨rfl,rfl⟩:=h
      rfl
     ·cases h
   ·rename_i hc
    obtain⟨p,hp,he⟩:=Option.map_eq_some_iff.1 h
    simp only[Prod.mk.injEq] at he
    obtain⟨rfl,rfl⟩:=he
    rw[ih (d::t) p.1 p.2 (by simpa using hl) hp,escTo,if_neg hc]
    rfl
theorem nextS_inv {l:List UInt8}{x:Val}{r:List UInt8}(h:nextS l=some (x,r))(hr:right x=true):l=enc x++r:=by
 unfold enc
 rw[plain_right hr]
 unfold nextS at h
 split at h
 ·cases h
 ·rename_i t r0
  split at h
  ·rename_i ht
   simp only[Option.some.injEq,Prod.mk.injEq] at h
   obtain⟨rfl,rfl⟩:=h
   rw[ht];rfl
  split at h
  ·rename_i ht
   split at h
   ·cases h
   ·simp only[Option.some.injEq,Prod.mk.injEq] at h
    obtain⟨rfl,rfl⟩:=h
    rw[ht]
    unfold enc0
    simp
  split at h
  ·rename_i ht
   split at h
   ·cases h
   ·rename_i hlen
    simp only[Option.some.injEq,Prod.mk.injEq] at h
    obtain⟨rfl,rfl⟩:=h
    rw[ht]
    unfold enc0
    simp only[deTo_be,be8_back (show 8≤r0.length by omega)]
    simp
  split at h
  ·rename_i ht
   split at h
   ·cases h
   ·split at h
    ·cases h
    ·rename_i c r' hlen
     simp only[Option.some.injEq,Prod.mk.injEq] at h
     obtain⟨rfl,rfl⟩:=h
     rw[ht]
     unfold enc0
     simp only[deTo_be,be8_back (show 8≤r'.length by omega)]
     simp
  split at h
  ·rename_i ht
   obtain⟨p,hp,he⟩:=Option.map_eq_some_iff.1 h
   simp only[Prod.mk.injEq] at he
   obtain⟨rfl,rfl⟩:=he
   rw[untext_inv _ r0 p.1 p.2 (Nat.le_refl _) hp]
   unfold enc0
   rcases ht with rfl|rfl<;>simp
  ·cases h
def Dif (a b:List UInt8)(z:Int):Prop:=∃ (p:List UInt8) (c d:UInt8) (t u:List UInt8),a=p++c::t∧b=p++d::u∧c≠d∧z=numI (c.toNat:Int) (d.toNat:Int)
theorem Dif.append {a b:List UInt8}{z:Int}(h:Dif a b z)(x y:List UInt8):Dif (a++x) (b++y) z:=by
 obtain⟨p,c,d,t,u,rfl,rfl,h,hz⟩:=h
 exact⟨p,c,d,t++x,u++y,by simp,by simp,h,hz⟩
theorem Dif.pre {a b:List UInt8}{z:Int}(h:Dif a b z)(q:List UInt8):Dif (q++a) (q++b) z:=by
 obtain⟨p,c,d,t,u,rfl,rfl,h,hz⟩:=h
 exact⟨q++p,c,d,t,u,by simp,by simp,h,hz⟩
theorem u8_ne_nat {c d:UInt8}(h:c≠d):(c.toNat:Int)≠(d.toNat:Int):=fun e=>h (UInt8.toNat_inj.1 (by omega))
theorem numI_ne {a b:Int}(h:a≠b):numI a b≠0:=by
 rcases Int.lt_trichotomy a b with h1|h1|h1
 ·rw[numI_lt h1];decide
 ·exact absurd h1 h
 ·rw[numI_gt h1];decide
theorem Dif.ne {a b:List UInt8}{z:Int}(h:Dif a b z):z≠0:=by
 obtain⟨p,c,d,t,u,rfl,rfl,h,rfl⟩:=h
 exact numI_ne (u8_ne_nat h)
theorem txt_pre:∀ (p a b:List UInt8),txtL (p++a) (p++b)=txtL a b
 |[],_,_=>rfl
 |c::p,a,b=>by
  rw[List.cons_append,List.cons_append,txtL,beq_self_eq_true,cond_true,txt_pre p a b]
theorem Dif.txt {a b:List UInt8}{z:Int}(h:Dif a b z):txtL a b=z:=by
 obtain⟨p,c,d,t,u,rfl,rfl,h,rfl⟩:=h
 rw[txt_pre,txtL,cond_f (by simpa using h)]
theorem txt_self (a:List UInt8):txtL a a=0:=by
 have:=txt_pre a [] []
 rw[List.append_nil] at this
 rw[this];rfl
theorem be_cons_from:∀ (l:List UInt8) (u:Nat),l.foldl (fun u c=>u * 256+c.toNat) u=u * 256^l.length+be l:=by
 intro l
 induction l with
 |nil=>intro u;simp[be]
 |cons c l ih =>
  intro u
  have h1:=ih (u * 256+c.toNat)
  have h2:=ih c.toNat
  have e:be (c::l)=l.foldl (fun u c=>u * 256+c.toNat) c.toNat:=by simp[be]
  rw[List.foldl_cons,h1,e,h2,List.length_cons,Nat.pow_succ,Nat.add_mul,Nat.mul_assoc,Nat.mul_comm 256 (256^l.length)]
  omega
theorem be_cons (c:UInt8)(l:List UInt8):be (c::l)=c.toNat * 256^l.length+be l:=by
 have:=be_cons_from l c.toNat
 rw[← this];simp[be]
theorem be_dif:∀ (n:Nat) (a b:List UInt8),a.length=n→b.length=n→a=b∨Dif a b (numI (be a:Int) (be b:Int)):=by
 intro n
 induction n with
 |zero=>intro a b ha hb;left;rw[List.length_eq_zero_iff.1 ha,List.length_eq_zero_iff.1 hb]
 |succ n ih =>
  intro a b ha hb
  match a,b,ha,hb with
  |c::t,d::u,ha,hb =>
   simp only[List.length_cons,Nat.add_right_cancel_iff] at ha hb
   have l1:=be_lt n t ha
   have l2:=be_lt n u hb
   rw[be_cons,be_cons,ha,hb]
   by_cases h:c=d
   ·subst h
    rcases ih t u ha hb with rfl|hd
    ·left;rfl
    ·right
     have:=hd.pre [c]
     have e:numI ((c.toNat * 256^n+be t:Nat):Int) ((c.toNat * 256^n+be u:Nat):Int)=numI (be t:Int) (be u:Int):=by
      generalize c.toNat * 256^n=q
      rcases Nat.lt_trichotomy (be t) (be u) with h|h|h
      ·rw[numI_lt (by omega),numI_lt (by omega)]
      ·rw[h,numI_self,numI_self]
      ·rw[numI_gt (by omega),numI_gt (by omega)]
     rw[e]
     exact this
   ·right
    refine⟨[],c,d,t,u,rfl,rfl,h,?_⟩
    have hne:c.toNat≠d.toNat:=fun e=>h (UInt8.toNat_inj.1 e)
    rcases Nat.lt_or_ge c.toNat d.toNat with h1|h1
    ·have:(c.toNat+1) * 256^n≤d.toNat * 256^n:=Nat.mul_le_mul_right _ h1
     rw[Nat.add_mul] at this
     rw[numI_lt (by omega),numI_lt (by omega)]
    ·have:(d.toNat+1) * 256^n≤c.toNat * 256^n:=Nat.mul_le_mul_right _ (by omega)
     rw[Nat.add_mul] at this
     rw[numI_gt (by omega),numI_gt (by omega)]
theorem be_be8 (n:Int):be (be8 n)=flipN n:=by
 have:=deTo_beTo (flipN n) (flipN_lt n) []
 rw[deTo_be,List.append_nil,List.take_of_length_le (by rw[beTo_length];exact Nat.le_refl _)] at this
 exact this
theorem be8_dif {m n:Int}(hm:-9223372036854775808≤m∧m≤9223372036854775807)(hn:-9223372036854775808≤n∧n≤9223372036854775807):(m=n∧numI m n=0)∨Dif (be8 m) (be8 n) (numI m n):=by
 have e:numI (flipN m:Int) (flipN n:Int)=numI m n:=by
  have h1:(flipN m:Int)=m+9223372036854775808:=by unfold flipN;omega
  have h2:(flipN n:Int)=n+9223372036854775808:=by unfold flipN;omega
  rw[h1,h2]
  rcases Int.lt_trichotomy m n with h|h|h
  ·rw[numI_lt (by omega),numI_lt h]
  ·rw[h,numI_self,numI_self]
  ·rw[numI_gt (by omega),numI_gt h]
 rcases be_dif 8 (be8 m) (be8 n) (be8_length m) (be8_length n) with h|h
 ·left
  have h3:=congrArg be h
  rw[be_be8,be_be8] at h3
  have:m=n:=by unfold flipN at h3;omega
  exact⟨this,by rw[this,numI_self]⟩
 ·right
  rw[be_be8,be_be8,e] at h
  exact h
theorem esc_dif:∀ (s u:List UInt8),(s=u∧txtL s u=0)∨Dif (escTo s++[0,1]) (escTo u++[0,1]) (txtL s u)
 |[],[]=>.inl ⟨rfl,rfl⟩
 |[],b::y=>by
  right
  by_cases h:b=0
  ·subst h
   exact⟨[0],1,255,[],escTo y++[0,1],by simp[escTo],by simp[escTo],by decide,rfl⟩
  ·refine⟨[],0,b,[1],escTo y++[0,1],by simp[escTo],by simp[escTo,h],fun e=>h e.symm,?_⟩
   have hb:b.toNat≠0:=fun e=>h (UInt8.toNat_inj.1 (by simpa using e))
   show (-1:Int)=_
   rw[numI_lt]
   simp only[UInt8.reduceToNat]
   omega
 |a::x,[]=>by
  right
  by_cases h:a=0
  ·subst h
   exact⟨[0],255,1,escTo x++[0,1],[],by simp[escTo],by simp[escTo],by decide,rfl⟩
  ·refine⟨[],a,0,escTo x++[0,1],[1],by simp[escTo,h],by simp[escTo],h,?_⟩
   have hb:a.toNat≠0:=fun e=>h (UInt8.toNat_inj.1 (by simpa using e))
   show (1:Int)=_
   rw[numI_gt]
   simp only[UInt8.reduceToNat]
   omega
 |a::x,b::y=>by
  by_cases h:a=b
  ·subst h
   have e:txtL (a::x) (a::y)=txtL x y:=by rw[txtL,beq_self_eq_true,cond_true]
   rw[e]
   rcases esc_dif x y with ⟨rfl,h0⟩|hd
   ·exact .inl ⟨rfl,h0⟩
   ·right
    have:=hd.pre (if a=0 then [0,255] else [a])
    rw[escTo,escTo,List.append_assoc,List.append_assoc]
    exact this
  ·right
   rw[txtL,cond_f (by simpa using h)]
   by_cases h0:a=0
   ·subst h0
    have hb:b≠0:=fun e=>h e.symm
    exact⟨[],0,b,_,_,by simp[escTo];rfl,by simp[escTo,hb];rfl,h,rfl⟩
   ·by_cases h1:b=0
    ·subst h1
     exact⟨[],a,0,_,_,by simp[escTo,h0];rfl,by simp[escTo];rfl,h,rfl⟩
    ·exact⟨[],a,b,_,_,by simp[escTo,h0];rfl,by simp[escTo,h1];rfl,h,rfl⟩
def ordV (x y:Val):Int:=if x.kind≠y.kind then numI x.kind y.kind else if x.kind=0 then 0 else if x.kind=1∨x.kind=2∨x.kind=3 then numI x.n y.n else txtL x.s y.s
def mates (x y:Val):Prop:=x.kind=0∨y.kind=0∨(x.kind=y.kind∧x.scale=y.scale)
theorem right_kind {x:Val}(h:right x=true):0≤x.kind∧x.kind≤5:=by
 unfold right at h
 (repeat' split at h)<;>first|(cases h;done)|omega
theorem enc_kind {x:Val}(h:right x=true):enc x=UInt8.ofNat x.kind.toNat::(if x.kind=1 then [UInt8.ofNat x.n.toNat] else if x.kind=2 then be8 x.n else if x.kind=3 then UInt8.ofNat x.scale.toNat::be8 x.n
  else if x.kind=4∨x.kind=5 then escTo x.s++[0,1] else []):=by
 unfold enc
 rw[plain_right h];rfl
theorem byte_nat {k:Int}(h0:0≤k)(h1:k≤255):((UInt8.ofNat k.toNat).toNat:Int)=k:=by
 rw[UInt8.toNat_ofNat'];omega
theorem enc_dif {x y:Val}(hx:right x=true)(hy:right y=true)(hx64:x.in64)(hy64:y.in64)(hm:mates x y):(x=y∧ordV x y=0)∨Dif (enc x) (enc y) (ordV x y):=by
 have kx:=right_kind hx
 have ky:=right_kind hy
 have ex:=enc_kind hx
 have ey:=enc_kind hy
 by_cases hk:x.kind=y.kind
 ·have hs : x.kind≠0→x.scale=y.scale:=by
   intro h0
   rcases hm with h|h|h
   ·exact absurd h h0
   ·rw[← hk] at h;exact absurd h h0
   ·exact h.2
  unfold right at hx hy
  rw[← hk] at hy ey
  unfold ordV
  rw[if_neg (by simpa using hk)]
  by_cases h0:x.kind=0
  ·left
   rw[if_pos h0] at hx hy ⊢
   simp only[decide_eq_true_eq] at hx hy
   exact⟨Val.ext' hk (by omega) (by omega) (by rw[hx.2.2,hy.2.2]),rfl⟩
  ·rw[if_neg h0] at hx hy ⊢
   have hs:=hs h0
   by_cases h1:x.kind=1
   ·rw[if_pos (.inl h1)]
    rw[if_pos h1] at hx hy
    simp only[decide_eq_true_eq] at hx hy
    simp only[h1,if_true] at ex ey
    by_cases hn:x.n=y.n
    ·left
     exact⟨Val.ext' hk hn hs (by rw[hx.2.2,hy.2.2]),by rw[hn,numI_self]⟩
    ·right
     rw[ex,ey]
     have b1:=byte_nat (k:=x.n) (by omega) (by omega)
     have b2:=byte_nat (k:=y.n) (by omega) (by omega)
     exact⟨[_],UInt8.ofNat x.n.toNat,UInt8.ofNat y.n.toNat,[],[],rfl,rfl,fun e=>hn (by rw[← b1,← b2,e]),by rw[b1,b2]⟩
   ·rw[if_neg h1] at hx hy
    by_cases h2:x.kind=2
    ·rw[if_pos (.inr (.inl h2))]
     rw[if_pos h2] at hx hy
     simp only[decide_eq_true_eq] at hx hy
     simp only[h2,if_true,show ¬ (2:Int)=1 by decide,if_false] at ex ey
     rcases be8_dif hx64 hy64 with ⟨h,hz⟩|h
     ·exact .inl ⟨Val.ext' hk h hs (by rw[hx.2,hy.2]),hz⟩
     ·right
      rw[ex,ey]
      exact h.pre [_]
    ·rw[if_neg h2] at hx hy
     by_cases h3:x.kind=3
     ·rw[if_pos (.inr (.inr h3))]
      rw[if_pos h3] at hx hy
      simp only[decide_eq_true_eq] at hx hy
      simp only[h3,if_true,show ¬ (3:Int)=1 by decide,show ¬ (3:Int)=2 by decide,if_false] at ex ey
      rcases be8_dif hx64 hy64 with ⟨h,hz⟩|h
      ·exact .inl ⟨Val.ext' hk h hs (by rw[hx.1,hy.1]),hz⟩
      ·right
       rw[ex,ey,hs]
       exact h.pre [_,_]
     ·rw[if_neg h3] at hx hy
      have h45:x.kind=4∨x.kind=5:=by omega
      rw[if_neg (by omega)]
      simp only[h1,h2,h3,if_false,if_pos h45] at ex ey
      have hnn:x.n=y.n:=by
       rcases h45 with h|h<;>simp only[h,if_true,show ¬ (5:Int)=4 by decide,if_false,Bool.and_eq_true,decide_eq_true_eq] at hx hy<;>omega
      rcases esc_dif x.s y.s with ⟨h,hz⟩|h
      ·exact .inl ⟨Val.ext' hk hnn hs h,hz⟩
      ·right
       rw[ex,ey]
       exact h.pre [_]
 ·right
  unfold ordV
  rw[if_pos hk,ex,ey]
  have b1:=byte_nat (k:=x.kind) (by omega) (by omega)
  have b2:=byte_nat (k:=y.kind) (by omega) (by omega)
  exact⟨[],_,_,_,_,rfl,rfl,fun e=>hk (by rw[← b1,← b2,e]),by rw[b1,b2]⟩
theorem bindV_nat {R:Type}{a:Option (List Val)}{g:List Val→Bool}{v:List Val→PV}{k:PV→Option R} :
  (a.bind fun A=>bif g A then k (v A) else none)=(a.bind fun A=>bif g A then some (v A) else none).bind k:=by
 cases a with
 |none=>rfl
 |some a=>exact cond_nat
theorem bindV_inv {a:Option (List Val)}{g:List Val→Bool}{v:List Val→PV}{r:PV}(h:(a.bind fun A=>bif g A then some (v A) else none)=some r):∃ A,a=some A∧g A=true∧r=v A:=by
 obtain⟨A,h1,h⟩:=Option.bind_eq_some_iff.1 h
 cases hg:g A<;>rw[hg] at h
 ·cases h
 ·injection h with h
  exact⟨A,h1,hg,h.symm⟩
def p_by8:PFn:=⟨fun xs k=>match xs with|[.int .i64 a]=>k (.str (be8 a))|_=>none,false⟩
theorem ok_by8:FOK NGk Tabs 77 p_by8:=by
 refine fok_calls Tryz.func77 (by kernel_rfl) (by decide) ?_ rfl ?_
 ·intro R xs k
  simp only[p_by8]
  split<;>rfl
 ·intro xs r M vs hW h hr
  simp only[p_by8] at h
  split at h
  ·rename_i a
   simp only[Option.some.injEq] at h
   subst h
   obtain⟨v,rfl,h2⟩:=relT1 hr
   simp only[RelD] at h2
   subst h2
   refine (bytes8_any a M.w).mono ?_
   rintro e w' ⟨rfl,hbl⟩
   exact⟨_,rfl,hbl,fun U' _=>rfl⟩
  ·cases h
theorem right_B (v:Val):rightB v.kind v.n v.scale v.s=right v:=by
 unfold rightB right scB
 rw[Bool.eq_iff_iff]
 by_cases h0:v.kind=0
 ·simp[h0,and_assoc]
 ·rw[show (v.kind==0)=false by simpa using h0,cond_false,if_neg h0]
  by_cases h1:v.kind=1
  ·simp[h1,and_assoc]
  ·rw[show (v.kind==1)=false by simpa using h1,cond_false,if_neg h1]
   by_cases h2:v.kind=2
   ·simp[h2,and_assoc]
   ·rw[show (v.kind==2)=false by simpa using h2,cond_false,if_neg h2]
    by_cases h3:v.kind=3
    ·simp[h3,and_assoc]
    ·rw[show (v.kind==3)=false by simpa using h3,cond_false,if_neg h3]
     by_cases h4:v.kind=4
     ·simp[h4,and_assoc]
     ·rw[show (v.kind==4)=false by simpa using h4,cond_false,if_neg h4]
      by_cases h5:v.kind=5
      ·simp[h5,and_assoc]
      ·simp[h5]
theorem plainA_cs (v:Val):[PV.int .i64 (bif rightB v.kind v.n v.scale v.s then v.kind else 0),.int .i64 (bif rightB v.kind v.n v.scale v.s then v.n else 0),.int .i64 (bif rightB v.kind v.n v.scale v.s then v.scale else 0),.str (bif rightB v.kind v.n v.scale v.s then v.s else [])]=V4.cs (plain v):=by
 unfold plain
 rw[right_B]
 cases right v<;>rfl
def catO {R:Type}(x y:List UInt8)(k:Option R):Option R:=bif decide (x.length+y.length≤9223372036854775807) then k else none
theorem catO_eq {R:Type}{x y:List UInt8}{k:Option R}(h:x.length+y.length≤9223372036854775807):catO x y k=k:=cond_t (decide_eq_true h)
def u8w (x:Int):UInt8:=UInt8.ofNat (IntKind.u8.wrap x).toNat
def hOn:Hints:=⟨[],[(1,⟨[(3,false),(4,false),(5,false)],[3]⟩)]⟩
def frOn (a n c:Int)(s t:List UInt8)(i:Int):St:=frame 72 [(3,(.ptr 3 0,0)),(4,(.str t,0)),(5,(.int .i64 i,0))] [(3,[(.int .i64 a,0),(.int .i64 n,0),(.int .i64 c,0),(.str s,0)])]
noncomputable def lOn:List (FuncId×PFn):=[(76,p_plain),(77,p_by8)]
noncomputable def onLoop (fu n:Nat)(st:St):Option PV:=loopF (en lOn) hOn fu false Tryz.f46 [1,1,1,0,1,0,1,1,1,1,1,1,1,0,0,1,0] 1 n st
def onBody (a n c:Int)(L:Option PV):Option PV :=
 bif a==1 then catO [u8w a] [u8w n] (some (.str [u8w a,u8w n])) else
 bif a==2 then catO [u8w a] (be8 n) (some (.str (u8w a::be8 n))) else
 bif a==3 then catO [u8w a] [u8w c] (catO [u8w a,u8w c] (be8 n) (some (.str (u8w a::u8w c::be8 n)))) else
 bif a==4 then bif a==4 then L else some (.str [u8w a]) else bif a==5 then L else some (.str [u8w a])
theorem on_raw (fu:Nat)(a n c:Int)(s:List UInt8):prun (en lOn) hOn fu false Tryz.f46 [.agg [.int .i64 a,.int .i64 n,.int .i64 c,.str s]] =
  bif decide (s.length≤1000000) then onBody (bif rightB a n c s then a else 0) (bif rightB a n c s then n else 0) (bif rightB a n c s then c else 0)
   (onLoop fu fu (frOn (bif rightB a n c s then a else 0) (bif rightB a n c s then n else 0) (bif rightB a n c s then c else 0) (bif rightB a n c s then s else []) [u8w (bif rightB a n c s then a else 0)] 0)) else none:=by kernel_rfl
def cut1O {R:Type}(s:List UInt8)(i:Int)(K:List UInt8→Option R):Option R :=
 bif decide (0≤IntKind.i64.wrap (i+1))&&decide (IntKind.i64.wrap (i+1)≤(s.length:Int)) then bif decide (0≤i)&&decide (i≤((IntKind.i64.wrap (i+1)).toNat:Int)) then K ((s.take (IntKind.i64.wrap (i+1)).toNat).drop i.toNat) else none else none
theorem cut1O_eq {R:Type}{s:List UInt8}{i:Nat}{K:List UInt8→Option R}(h:i<s.length)(hs:s.length≤2000000):cut1O s (i:Int) K=K [s[i]]:=by
 unfold cut1O
 rw[wrapI_of (by omega) (by omega),cond_t (by rw[decide_eq_true (by omega),decide_eq_true (by omega)];rfl),cond_t (by rw[decide_eq_true (by omega),decide_eq_true (by omega)];rfl),show ((i:Int)+1).toNat=i+1 by omega,Int.toNat_natCast]
 congr 1
 rw[List.take_add_one,List.getElem?_eq_getElem h,Option.toList_some,List.drop_left' (by rw[List.length_take];omega)]
theorem on_step (fu:Nat)(a n c:Int)(s t:List UInt8)(i:Int)(K:St→Option PV) :
  stepF (en lOn) hOn fu false Tryz.f46 [1,1,1,0,1,0,1,1,1,1,1,1,1,0,0,1,0] (frOn a n c s t i) (fun st=>pnorm (hOn.loop.lookup 1) st K) =
  bif decide (i<(s.length:Int)) then cut1O s i fun y=>catO t y (ixS s i fun d=>bif (d.toNat:Int)==0 then catO (t++y) [255] (K (frOn a n c s (t++y++[255]) (IntKind.i64.wrap (i+1)))) else K (frOn a n c s (t++y) (IntKind.i64.wrap (i+1))))
  else catO t [0,1] (some (.str (t++[0,1]))):=by kernel_rfl
theorem u8_zero (d:UInt8):((d.toNat:Int)==0)=decide (d=0):=by
 rw[Bool.eq_iff_iff]
 simp only[beq_iff_eq,decide_eq_true_eq]
 constructor
 ·intro e;apply UInt8.toNat_inj.1;simp only[UInt8.reduceToNat];omega
 ·intro e;subst e;rfl
theorem on_loop (fu:Nat)(a n c:Int)(s:List UInt8)(hs:s.length≤1000000)(t0:List UInt8)(ht:t0.length≤10):∀ (k i m:Nat),i+k=s.length→k<m →
  onLoop fu m (frOn a n c s (t0++escTo (s.take i)) (i:Int))=some (.str (t0++escTo s++[0,1]))
 |k,i,0,_,h=>by omega
 |0,i,m+1,hi,hn=>by
  unfold onLoop
  have h2:=escTo_length (s.take i)
  rw[List.length_take] at h2
  rw[loopF_succ,on_step,cond_f (decide_eq_false (by omega)),catO_eq (by simp only[List.length_append,List.length_cons,List.length_nil];omega),List.take_of_length_le (by omega)]
 |k+1,i,m+1,hi,hn=>by
  unfold onLoop
  have hil:i<s.length:=by omega
  have hc:=List.getElem?_eq_getElem hil
  have h2:=escTo_length (s.take i)
  rw[List.length_take] at h2
  have ih:=on_loop fu a n c s hs t0 ht k (i+1) m (by omega) (by omega)
  unfold onLoop at ih
  rw[List.take_add_one,hc,Option.toList_some,escTo_append] at ih
  rw[loopF_succ,on_step,cond_t (decide_eq_true (by omega)),cut1O_eq hil (by omega),catO_eq (by simp only[List.length_append,List.length_cons,List.length_nil];omega),ixS_eq hc,u8_zero,wrapI_of (by omega) (by omega)]
  by_cases h0:s[i]=0
  ·rw[decide_eq_true h0,cond_true,catO_eq (by simp only[List.length_append,List.length_cons,List.length_nil];omega)]
   rw[h0] at ih ⊢
   rw[← ih]
   simp[escTo]
  ·rw[decide_eq_false h0,cond_false,← ih]
   simp[escTo,h0]
theorem on_body (fu:Nat)(v:Val)(hr:right v=true)(hs:v.s.length≤1000000)(hf:v.s.length<fu):onBody v.kind v.n v.scale (onLoop fu fu (frOn v.kind v.n v.scale v.s [u8w v.kind] 0))=some (.str (enc0 v)):=by
 have hL:=on_loop fu v.kind v.n v.scale v.s hs [u8w v.kind] (by simp) v.s.length 0 fu (by omega) hf
 rw[show (([u8w v.kind]:List UInt8)++escTo (v.s.take 0))=[u8w v.kind] by simp[escTo],show (((0:Nat):Int))=0 from rfl] at hL
 rw[hL]
 have hb8:=be8_length v.n
 unfold right at hr
 unfold onBody enc0
 split at hr
 ·rename_i hk
  rw[hk];rfl
 split at hr
 ·rename_i hk
  simp only[decide_eq_true_eq] at hr
  rw[hk]
  obtain⟨h,_,_⟩:=hr
  rcases h with h|h<;>rw[h]<;>rfl
 split at hr
 ·rename_i hk
  rw[hk]
  refine (catO_eq (show ([u8w 2]:List UInt8).length+(be8 v.n).length≤_ by rw[hb8];decide)).trans ?_
  rfl
 split at hr
 ·rename_i hk
  simp only[decide_eq_true_eq] at hr
  rw[hk]
  refine (catO_eq (show ([u8w 3]:List UInt8).length+([u8w v.scale]:List UInt8).length≤_ by simp)).trans ((catO_eq (show ([u8w 3,u8w v.scale]:List UInt8).length+(be8 v.n).length≤_ by rw[hb8];simp)).trans ?_)
  have e:u8w v.scale=UInt8.ofNat v.scale.toNat:=by unfold u8w;rw[IntKind.wrap_u8];congr 2;omega
  rw[e];rfl
 split at hr
 ·rename_i hk
  rw[hk];rfl
 split at hr
 ·rename_i hk
  rw[hk];rfl
 ·cases hr
def p_One:PFn:=⟨fun xs k=>match xs with|[.agg [.int .i64 a,.int .i64 n,.int .i64 c,.str s]]=>bif decide (s.length≤1000000) then k (.str (enc ⟨a,n,c,s⟩)) else none|_=>none,false⟩
theorem ok_One:FOK NGk Tabs 46 p_One:=by
 refine fok wokk (allOK_cons ok_plain (allOK_cons ok_by8 allOK_nil)) (h:=hOn) Tryz.func46 rfl (by decide) ?_ ?_
 ·intro R xs k
  simp only[p_One]
  split
  ·exact cond_nat
  ·rfl
 ·intro xs r h
  simp only[p_One] at h
  split at h
  ·rename_i a n c s
   rcases hb:decide (s.length≤1000000) with _|_<;>rw[hb] at h
   ·cases h
   ·refine⟨1000001,(on_raw _ a n c s).trans ?_⟩
    rw[hb,← h,cond_true,cond_true]
    simp only[decide_eq_true_eq] at hb
    have e:=plainA_cs ⟨a,n,c,s⟩
    simp only[V4.cs,List.cons.injEq,PV.int.injEq,true_and,PV.str.injEq,and_true] at e
    obtain⟨e1,e2,e3,e4⟩:=e
    rw[e1,e2,e3,e4]
    have hl:(plain ⟨a,n,c,s⟩).s.length≤1000000:=by unfold plain;split;exact hb;simp[vnull]
    exact on_body 1000001 (plain ⟨a,n,c,s⟩) (right_plain _) hl (by omega)
  ·cases h
def nxA (r:Option (Val×List UInt8)):Val:=r.elim vnull (·.1)
def nxR (r:Option (Val×List UInt8)):List UInt8:=r.elim [] (·.2)
def nxV (l:List UInt8):PV :=
 .tuple [.agg [.int .i64 (nxA (nextV l)).kind,.int .i64 (nxA (nextV l)).n,.int .i64 (nxA (nextV l)).scale,.str (nxA (nextV l)).s],.sl none 1 (nxR (nextV l)).length (bC (nxR (nextV l))),.bool (nextV l).isSome]
def p_KeysNext:PFn:=⟨fun xs k=>match xs with|[.sl _ 1 n c]=>(decY n c).bind fun l=>bif decide (l.length≤1000000) then k (nxV l) else none|_=>none,false⟩
theorem sl_bytes {M:Mem}{nl:Option Bool}{l:List UInt8}{v:Value}(h:RelD M (.sl nl 1 l.length (bC l)) v):∃ A c,v=.slice A l.length c∧Sl M.w 1 A l.length c (bvs l):=by
 simp only[RelD] at h
 obtain⟨A,c,us,rfl,hnc,hcm,_,_,hl,hr,hx⟩:=h
 have hus:us=bvs l:=by
  clear hx hl hcm hnc
  induction l generalizing us with
  |nil=>exact (by simpa only[bC,List.map_nil,RelL] using hr:us=[])
  |cons b l ih =>
   have hr:RelL M (bytePV b::bC l) us:=hr
   simp only[RelL,bytePV,RelD] at hr
   obtain⟨u,us',rfl,_,rfl,h3⟩:=hr
   rw[ih us' h3];rfl
 subst hus
 refine⟨A,c,rfl,by rw[bvs_length];omega,hnc,hcm,fun hn=>?_⟩
 rcases hx with hx|⟨b,o,rfl,hc⟩
 ·have:=bvs_length l
  rw[hx] at this
  simp only[List.length_nil] at this
  omega
 ·refine⟨b,o,rfl,?_,fun j u hu=>(hc j u hu).1⟩
  have h0:0<(bvs l).length:=by rw[bvs_length];omega
  have:(bvs l)[0]? = some ((bvs l)[0]'h0):=List.getElem?_eq_getElem h0
  exact World.block_lt_of_cell? M.w _ (hc 0 _ this).1
theorem rel_nil1 {M:Mem}:RelD M (.sl none 1 0 []) (.slice none 0 0):=by
 simp only[RelD]
 exact⟨none,0,[],rfl,Nat.le_refl _,Nat.zero_le _,fun b hb=>(by cases hb),fun _=>rfl,rfl,rfl,Or.inl rfl⟩
theorem rel_next {M:Mem}{x:Val}{r:PV}{u:Value}{b:Bool}(h:RelD M r u):RelD M (.tuple [.agg [.int .i64 x.kind,.int .i64 x.n,.int .i64 x.scale,.str x.s],r,.bool b]) (.tuple #[.agg #[.int .i64 x.kind,.int .i64 x.n,.int .i64 x.scale,.string ⟨x.s.toArray⟩],u,.bool b]):=by
 simp only[RelD,RelT,RelL]
 exact⟨_,rfl,_,_,rfl,⟨_,rfl,_,_,rfl,rfl,rfl,_,_,rfl,rfl,rfl,_,_,rfl,rfl,rfl,_,_,rfl,rfl,rfl,rfl⟩,_,_,rfl,h,_,_,rfl,rfl,rfl⟩
theorem ok_KeysNext:FOK NGk Tabs 116 p_KeysNext:=by
 refine fok_new Tryz.func116 (by kernel_rfl) (by decide) ?_ rfl ?_
 ·intro R xs k
  simp only[p_KeysNext]
  split
  ·exact bindY_nat
  ·rfl
 ·intro xs r M vs hW h hr
  simp only[p_KeysNext] at h
  split at h
  ·rename_i nl n c
   obtain⟨l,h1,hg,rfl⟩:=bindY_inv h
   obtain⟨rfl,rfl⟩:=decY_inv h1
   simp only[decide_eq_true_eq] at hg
   obtain⟨v,rfl,h2⟩:=relT1 hr
   obtain⟨A,c,rfl,hs⟩:=sl_bytes h2
   refine (keysNext_any M.w A l.length c l hs (by omega) hW).mono ?_
   rintro e w' ⟨hbl,he⟩
   unfold nxV
   rcases hn:nextV l with _|⟨x,rest⟩<;>rw[hn] at he
   ·simp only at he
    subst he
    exact⟨_,rfl,hbl,fun U' hU=>rel_next (x:=vnull) (b:=false) rel_nil1⟩
   ·simp only at he
    obtain⟨A',c',rfl,ho⟩:=he
    exact⟨_,rfl,hbl,fun U' hU=>rel_next (x:=x) (b:=true) (rel_own ho hU)⟩
  ·cases h
theorem valsC_snoc (vs:List Val)(v:Val):valsC vs++V4.cs v=valsC (vs++[v]):=by simp[valsC]
def roomV {R:Type}(l m:Nat)(x:Option R):Option R:=bif decide (l+m≤9223372036854775807)&&decide ((l+m) * 40≤140737488355328) then x else none
theorem roomV_eq {R:Type}{l m:Nat}{x:Option R}(h:l+m≤2000000):roomV l m x=x:=by
 unfold roomV
 exact cond_t (by rw[decide_eq_true (by omega),decide_eq_true (by omega)];rfl)
def nextO {R:Type}(n:Nat)(c:List PV)(K:List UInt8→Option R):Option R:=(decY n c).bind fun l=>bif decide (l.length≤1000000) then K l else none
theorem nextO_eq {R:Type}{l:List UInt8}{K:List UInt8→Option R}(h:l.length≤1000000):nextO l.length (bC l) K=K l:=by
 unfold nextO
 rw[decY_bC]
 exact cond_t (decide_eq_true h)
def hGe:Hints:=⟨[],[(0,⟨[(0,false),(4,true)],[]⟩)]⟩
def frGe (n0:Option Bool)(l0:Nat)(c0:List PV)(n4:Option Bool)(l4:Nat)(c4:List PV):St:=frame 25 [(0,(.sl n0 1 l0 c0,0)),(4,(.sl n4 4 l4 c4,31))] []
noncomputable def lGe:List (FuncId×PFn):=[(116,p_KeysNext)]
noncomputable def geLoop (fu n:Nat)(st:St):Option PV:=loopF (en lGe) hGe fu false Tryz.f90 [1,1,0,0] 0 n st
theorem ge_raw (fu:Nat)(n0:Option Bool)(l0:Nat)(c0:List PV):prun (en lGe) hGe fu false Tryz.f90 [.sl n0 1 l0 c0]=geLoop fu fu (frGe n0 l0 c0 (some true) 0 []):=by kernel_rfl
theorem ge_step (fu:Nat)(n0:Option Bool)(l0:Nat)(c0:List PV)(n4:Option Bool)(l4:Nat)(c4:List PV)(K:St→Option PV) :
  stepF (en lGe) hGe fu false Tryz.f90 [1,1,0,0] (frGe n0 l0 c0 n4 l4 c4) (fun st=>pnorm (hGe.loop.lookup 0) st K) =
  bif decide (0<(l0:Int)) then nextO l0 c0 fun l=>bif !(nextV l).isSome then some (.tuple [.sl (some true) 4 0 [],.bool false]) else
   roomV l4 1 (K (frGe none (nxR (nextV l)).length (bC (nxR (nextV l))) (n4.map (· && false)) (l4+1) (c4++[.int .i64 (nxA (nextV l)).kind,.int .i64 (nxA (nextV l)).n,.int .i64 (nxA (nextV l)).scale,.str (nxA (nextV l)).s])))
  else some (.tuple [.sl n4 4 l4 c4,.bool true]):=by kernel_rfl
def gtV (vs:List Val)(b:Bool):PV:=.tuple [.sl (some vs.isEmpty) 4 vs.length (valsC vs),.bool b]
theorem ge_loop (fu:Nat):∀ (k:Nat) (l:List UInt8) (n:Nat) (n0:Option Bool) (acc:List Val),l.length≤k→k<n→k≤1000000→acc.length+k≤1000000 →
  geLoop fu n (frGe n0 l.length (bC l) (some acc.isEmpty) acc.length (valsC acc))=some (match getV l with|none=>gtV [] false|some vs=>gtV (acc++vs) true)
 |k,l,0,_,_,_,h,_,_=>by omega
 |k,[],n+1,n0,acc,hl,hn,hk,ha=>by
  unfold geLoop
  rw[loopF_succ,ge_step,cond_f (decide_eq_false (by simp))]
  simp only[getV_nil,List.append_nil]
  rfl
 |0,b::l,n+1,n0,acc,hl,hn,hk,ha=>by simp at hl
 |k+1,b::l,n+1,n0,acc,hl,hn,hk,ha=>by
  unfold geLoop
  rw[loopF_succ,ge_step,cond_t (decide_eq_true (by simp only[List.length_cons];omega)),nextO_eq (by omega),getV_step (by simp)]
  rcases hv:nextV (b::l) with _|⟨x,r⟩
  ·rfl
  ·have hr:=nextV_len hv
   simp only[Option.isSome_some,Bool.not_true,cond_false,nxR,nxA,Option.elim_some]
   rw[roomV_eq (by omega)]
   have e:=valsC_snoc acc x
   unfold V4.cs at e
   rw[e]
   have ih:=ge_loop fu k r n none (acc++[x]) (by simp only[List.length_cons] at hl hr;omega) (by omega) (by omega) (by simp;omega)
   unfold geLoop at ih
   rw[List.length_append,show (acc++[x]).isEmpty=false by cases acc<;>rfl] at ih
   simp only[Option.map_some,Bool.and_false]
   refine ih.trans ?_
   rcases getV r with _|vs
   ·rfl
   ·simp only[Option.map_some,List.append_assoc,List.singleton_append]
def p_KeysGet:PFn:=⟨fun xs k=>match xs with|[.sl _ 1 n c]=>(decY n c).bind fun l=>bif decide (l.length≤1000000) then k (gtV ((getV l).getD []) (getV l).isSome) else none|_=>none,false⟩
theorem ok_lGe:AllOK NGk Tabs lGe:=allOK_cons ok_KeysNext allOK_nil
theorem ok_KeysGet:FOK NGk Tabs 90 p_KeysGet:=by
 refine fok wokk ok_lGe (h:=hGe) Tryz.func90 rfl (by decide) ?_ ?_
 ·intro R xs k
  simp only[p_KeysGet]
  split
  ·exact bindY_nat
  ·rfl
 ·intro xs r h
  simp only[p_KeysGet] at h
  split at h
  ·rename_i nl n c
   obtain⟨l,h1,hg,rfl⟩:=bindY_inv h
   obtain⟨rfl,rfl⟩:=decY_inv h1
   simp only[decide_eq_true_eq] at hg
   refine⟨l.length+1,(ge_raw _ nl _ _).trans ?_⟩
   refine (ge_loop (l.length+1) l.length l _ nl [] (Nat.le_refl _) (by omega) hg (by simpa using hg)).trans ?_
   rcases getV l with _|vs<;>rfl
  ·cases h
def oneO {R:Type}(a n c:Int)(s:List UInt8)(K:List UInt8→Option R):Option R:=bif decide (s.length≤1000000) then K (enc ⟨a,n,c,s⟩) else none
def hRp:Hints:=⟨[],[(0,⟨[(3,false),(6,false),(7,false),(8,false)],[]⟩)]⟩
def frRp (s:List UInt8)(n0:Option Bool)(l0:Nat)(c0:List PV)(L i:Int):St:=frame 18 [(3,(.str s,0)),(6,(.sl n0 4 l0 c0,0)),(7,(.int .i64 L,0)),(8,(.int .i64 i,0))] []
noncomputable def lRp:List (FuncId×PFn):=[(46,p_One)]
noncomputable def rpLoop (fu n:Nat)(st:St):Option PV:=loopF (en lRp) hRp fu false Tryz.f60 [1,1,0,1,0] 0 n st
theorem rp_raw (fu:Nat)(n0:Option Bool)(l0:Nat)(c0:List PV):prun (en lRp) hRp fu false Tryz.f60 [.sl n0 4 l0 c0]=rpLoop fu fu (frRp [] n0 l0 c0 (l0:Int) 0):=by kernel_rfl
theorem rp_step (fu:Nat)(s:List UInt8)(n0:Option Bool)(l0:Nat)(c0:List PV)(L i:Int)(K:St→Option PV) :
  stepF (en lRp) hRp fu false Tryz.f60 [1,1,0,1,0] (frRp s n0 l0 c0 L i) (fun st=>pnorm (hRp.loop.lookup 0) st K) =
  bif decide (i<L) then ixV l0 c0 i fun a n b t=>oneO a n b t fun y=>catO s y (K (frRp (s++y) n0 l0 c0 L (IntKind.i64.wrap (i+1)))) else some (.str s):=by kernel_rfl
theorem rp_loop (fu:Nat)(n0:Option Bool)(vs:List Val)(hvs:vs.length≤100000)(hs:∀ v∈vs,v.s.length≤1000000):∀ (k i n:Nat),i+k=vs.length→k<n →
  rpLoop fu n (frRp (encs (vs.take i)) n0 vs.length (valsC vs) (vs.length:Int) (i:Int))=some (.str (encs vs))
 |k,i,0,_,h=>by omega
 |0,i,n+1,hi,hn=>by
  unfold rpLoop
  rw[loopF_succ,rp_step,cond_f (decide_eq_false (by omega)),List.take_of_length_le (by omega)]
 |k+1,i,n+1,hi,hn=>by
  unfold rpLoop
  have hc:=List.getElem?_eq_getElem (l:=vs) (i:=i) (by omega)
  have hsv:=hs vs[i] (List.getElem_mem _)
  have ih:=rp_loop fu n0 vs hvs hs k (i+1) n (by omega) (by omega)
  have e:encs (vs.take (i+1))=encs (vs.take i)++enc vs[i]:=by
   rw[List.take_add_one,hc,Option.toList_some,encs,List.flatMap_append]
   simp[encs]
  rw[loopF_succ,rp_step,cond_t (decide_eq_true (by omega)),ixV_eq hc,oneO,cond_t (decide_eq_true hsv)]
  have h1:=encs_length (vs.take i)
  have h2:=enc_length vs[i]
  rw[List.length_take] at h1
  rw[catO_eq (by show (encs (vs.take i)).length+(enc vs[i]).length≤_;omega),wrapI_of (by omega) (by omega)]
  unfold rpLoop at ih
  rw[e] at ih
  exact ih
def p_RPut:PFn:=⟨fun xs k=>match xs with|[.sl _ 4 n c]=>(decV n c).bind fun vs=>bif decide (vs.length≤100000)&&vs.all (fun v=>decide (v.s.length≤1000000)) then k (.str (encs vs)) else none|_=>none,false⟩
theorem ok_RPut:FOK NGk Tabs 60 p_RPut:=by
 refine fok wokk (allOK_cons ok_One allOK_nil) (h:=hRp) Tryz.func60 rfl (by decide) ?_ ?_
 ·intro R xs k
  simp only[p_RPut]
  split
  ·exact bindV_nat
  ·rfl
 ·intro xs r h
  simp only[p_RPut] at h
  split at h
  ·rename_i nl n c
   obtain⟨vs,h1,hg,rfl⟩:=bindV_inv h
   obtain⟨rfl,rfl⟩:=decV_inv h1
   simp only[Bool.and_eq_true,decide_eq_true_eq,List.all_eq_true] at hg
   exact⟨vs.length+1,(rp_raw _ nl _ _).trans (rp_loop _ nl vs hg.1 hg.2 vs.length 0 _ (by omega) (by omega))⟩
  ·cases h
def hKp:Hints:=⟨[],[(0,⟨[(0,false),(3,false),(4,true),(15,false),(16,false),(17,false)],[]⟩)]⟩
def frKp (n0:Option Bool)(l0:Nat)(c0:List PV)(n3:Option Bool)(l3:Nat)(c3:List PV)(n4:Option Bool)(l4:Nat)(c4:List PV)(n5:Option Bool)(l5:Nat)(c5:List PV)(L i:Int):St :=
 frame 45 [(0,(.sl n0 4 l0 c0,0)),(3,(.sl n3 1 l3 c3,0)),(4,(.sl n4 4 l4 c4,51)),(15,(.sl n5 4 l5 c5,0)),(16,(.int .i64 L,0)),(17,(.int .i64 i,0))] []
def putO {R:Type}(n:Nat)(c:List PV)(K:List UInt8→Option R):Option R:=(decV n c).bind fun vs=>bif decide (vs.length≤100000) then K (encs vs) else none
theorem putO_eq {R:Type}{vs:List Val}{K:List UInt8→Option R}(h:vs.length≤100000):putO vs.length (valsC vs) K=K (encs vs):=by
 unfold putO;rw[decV_vals];exact cond_t (decide_eq_true h)
theorem flat_at {α:Type}{f:α→List PV}{sz:Nat}(hf:∀ x,(f x).length=sz):∀ {l:List α} {i:Nat} {x:α},l[i]? = some x→((l.flatMap f).drop (i * sz)).take sz=f x
 |y::l,0,x,h=>by
  simp only[List.getElem?_cons_zero,Option.some.injEq] at h
  subst h
  rw[Nat.zero_mul,List.drop_zero,List.flatMap_cons,← hf y,List.take_left]
 |y::l,i+1,x,h=>by
  simp only[List.getElem?_cons_succ] at h
  rw[List.flatMap_cons,Nat.add_mul,Nat.one_mul,Nat.add_comm,← List.drop_drop,← hf y,List.drop_left,hf y]
  exact flat_at hf h
def decG {α:Type}(sz:Nat)(g:List PV→Option α):Nat→List PV→Option (List α)
 |0,[]=>some []
 |0,_::_=>none
 |n+1,c=>(g (c.take sz)).bind fun x=>(decG sz g n (c.drop sz)).map (x :: ·)
theorem decG_of {α:Type}{sz:Nat}{g:List PV→Option α}{f:α→List PV}(hf:∀ x,(f x).length=sz)(hg:∀ x,g (f x)=some x):∀ (l:List α),decG sz g l.length (l.flatMap f)=some l
 |[]=>rfl
 |x::l=>by
  rw[List.length_cons,List.flatMap_cons,decG,← hf x,List.take_left,List.drop_left,hg x,hf x,Option.bind_some,decG_of hf hg l]
  rfl
theorem decG_inv {α:Type}{sz:Nat}{g:List PV→Option α}{f:α→List PV}(hg:∀ c x,g c=some x→c=f x):∀ {n:Nat} {c:List PV} {l:List α},decG sz g n c=some l→n=l.length∧c=l.flatMap f
 |0,[],l,h=>by injection h with h;subst h;exact⟨rfl,rfl⟩
 |0,_::_,l,h=>by cases h
 |n+1,c,l,h=>by
  rw[decG] at h
  obtain⟨x,h1,h2⟩:=Option.bind_eq_some_iff.1 h
  obtain⟨t,h3,rfl⟩:=Option.map_eq_some_iff.1 h2
  obtain⟨rfl,h4⟩:=decG_inv hg h3
  refine⟨rfl,?_⟩
  rw[List.flatMap_cons,← hg _ _ h1,← h4,List.take_append_drop]
theorem bindL_nat {α R:Type}{a:Option (List α)}{g:List α→Bool}{v:List α→PV}{k:PV→Option R} :
  (a.bind fun A=>bif g A then k (v A) else none)=(a.bind fun A=>bif g A then some (v A) else none).bind k:=by
 cases a with
 |none=>rfl
 |some a=>simp only[Option.bind_some];cases g a<;>rfl
theorem bindL_inv {α:Type}{a:Option (List α)}{g:List α→Bool}{v:List α→PV}{r:PV}(h:(a.bind fun A=>bif g A then some (v A) else none)=some r):∃ A,a=some A∧g A=true∧r=v A:=by
 obtain⟨A,h1,h⟩:=Option.bind_eq_some_iff.1 h
 cases hg:g A<;>rw[hg] at h
 ·cases h
 ·injection h with h
  exact⟨A,h1,hg,h.symm⟩
theorem cmpN_numI (a b:Int):cmpN a b=numI a b:=by
 unfold cmpN numI
 by_cases h:a<b
 ·rw[if_pos h,decide_eq_true h];rfl
 ·rw[if_neg h,decide_eq_false h]
  by_cases k:b<a
  ·rw[if_pos k,decide_eq_true k];rfl
  ·rw[if_neg k,decide_eq_false k];rfl
theorem textCmp_txt:∀ (a b:List UInt8),textCmp a b=txtL a b
 |[],[]=>rfl
 |[],_::_=>rfl
 |_::_,[]=>rfl
 |a::x,b::y=>by
  rw[textCmp,txtL,textCmp_txt x y,cmpN_numI]
  by_cases h:a=b
  ·rw[if_pos h,cond_t (by simpa using h)]
  ·rw[if_neg h,cond_f (by simpa using h)]
theorem numI_swap (a b:Int):numI a b=-numI b a:=by
 rcases Int.lt_trichotomy a b with h|h|h
 ·rw[numI_lt h,numI_gt h]
 ·rw[h,numI_self];rfl
 ·rw[numI_gt h,numI_lt h];rfl
theorem txt_swap:∀ (a b:List UInt8),txtL a b=-txtL b a
 |[],[]=>rfl
 |[],_::_=>rfl
 |_::_,[]=>rfl
 |a::x,b::y=>by
  rw[txtL,txtL]
  by_cases h:a=b
  ·subst h
   rw[beq_self_eq_true,cond_true,cond_true,txt_swap x y]
  ·rw[cond_f (by simpa using h),cond_f (by simpa using fun e=>h e.symm),numI_swap]
theorem lss_txt:∀ (a b:List UInt8),Op.bytesLess a b=decide (txtL a b<0)
 |[],[]=>rfl
 |[],_::_=>rfl
 |_::_,[]=>rfl
 |a::x,b::y=>by
  rw[Op.bytesLess,lss_txt x y,txtL]
  by_cases e:a=b
  ·subst e
   rw[beq_self_eq_true,cond_true]
   have:¬ a<a:=UInt8.lt_irrefl a
   simp[this]
  ·rw[cond_f (by simpa using e)]
   have hb:(a==b)=false:=by simpa using e
   have hne:=u8_ne_nat e
   rw[hb,Bool.false_and,Bool.or_false]
   by_cases k:a<b
   ·have:(a.toNat:Int)<(b.toNat:Int):=by have:=UInt8.lt_iff_toNat_lt.1 k;omega
    rw[numI_lt this,decide_eq_true k];rfl
   ·have:¬ (a.toNat:Int)<(b.toNat:Int):=fun e=>k (UInt8.lt_iff_toNat_lt.2 (by omega))
    rw[numI_gt (by omega),decide_eq_false k];rfl
def inSpan (b e:List UInt8):Bool:=(Op.bytesLess b e||b==e)&&Op.bytesLess e (aboveL b)
theorem span_iff {b e:List UInt8}(h:aboveL b≠[]):inSpan b e=decide (e.take b.length=b):=by
 unfold inSpan
 rw[lss_txt,lss_txt]
 obtain⟨_,h2⟩:=above_law b e h
 by_cases hp:e.take b.length=b
 ·rw[decide_eq_true hp]
  obtain⟨r,rfl⟩:∃ r,e=b++r:=⟨e.drop b.length,by rw[← List.take_append_drop b.length e,hp,List.drop_left' rfl]⟩
  obtain⟨h1,_⟩:=above_law b r h
  rw[textCmp_txt] at h1
  rw[decide_eq_true h1,Bool.and_true]
  have e1:txtL b (b++r)=txtL [] r:=by
   have:=txt_pre b [] r
   rwa [List.append_nil] at this
  rw[e1]
  cases r with
  |nil=>simp
  |cons c r=>rfl
 ·rw[decide_eq_false hp]
  rcases h2 with ⟨_,h3⟩|h3|h3
  ·exact absurd h3 hp
  ·rw[textCmp_txt] at h3
   have h4:=txt_swap b e
   have h5:(b==e)=false:=by
    rw[beq_eq_false_iff_ne]
    rintro rfl
    rw[txt_self] at h3
    omega
   rw[decide_eq_false (show ¬ txtL b e<0 by omega),h5]
   rfl
  ·rw[textCmp_txt] at h3
   rw[decide_eq_false (show ¬ txtL e (aboveL b)<0 by omega),Bool.and_false]
theorem strip_ne {c:UInt8}(h:c≠255):∀ (k:Nat) (t:List UInt8),t.length=k→strip (c::t)≠[]:=by
 intro k
 induction k with
 |zero =>
  intro t ht
  rw[List.length_eq_zero_iff.1 ht]
  have:=strip_stop (l:=[]) h
  rw[List.nil_append] at this
  rw[this]
  simp
 |succ k ih =>
  intro t ht
  have hne:t≠[]:=by intro e;rw[e] at ht;cases ht
  obtain⟨s,d,rfl⟩:∃ s d,t=s++[d]:=⟨t.dropLast,t.getLast hne,(List.dropLast_concat_getLast hne).symm⟩
  rw[← List.cons_append]
  by_cases hd:d=255
  ·rw[hd,strip_last]
   exact ih s (by simpa using ht)
  ·rw[strip_stop hd]
   simp
theorem above_ne {c:UInt8}(h:c≠255)(t:List UInt8):aboveL (c::t)≠[]:=by
 have:=strip_ne h t.length t rfl
 unfold aboveL bump
 rcases hl:(strip (c::t)).getLast? with _|d
 ·rw[List.getLast?_eq_none_iff] at hl;exact absurd hl this
 ·simp
def numV (n:Int):Val:=⟨2,n,0,[]⟩
theorem right_num (n:Int):right (numV n)=true:=by unfold right numV;simp
theorem enc_any {x y:Val}(hx:right x=true)(hy:right y=true)(hx64:x.in64)(hy64:y.in64):x=y∨∃ z,Dif (enc x) (enc y) z:=by
 by_cases hm:mates x y
 ·rcases enc_dif hx hy hx64 hy64 hm with ⟨h,_⟩|h
  ·exact .inl h
  ·exact .inr ⟨_,h⟩
 ·right
  have kx:=right_kind hx
  have ky:=right_kind hy
  have ex:=enc_kind hx
  have ey:=enc_kind hy
  unfold mates at hm
  by_cases hk:x.kind=y.kind
  ·have hs : x.scale≠y.scale:=fun e=>hm (.inr (.inr ⟨hk,e⟩))
   have h3 : x.kind=3∧(0≤x.scale∧x.scale≤6)∧(0≤y.scale∧y.scale≤6):=by
    unfold right at hx hy
    rw[← hk] at hy
    by_cases h0:x.kind=0
    ·exact absurd (.inl h0) hm
    ·rw[if_neg h0] at hx hy
     by_cases h1:x.kind=1
     ·rw[if_pos h1] at hx hy
      simp only[decide_eq_true_eq] at hx hy
      exact absurd (by omega) hs
     ·rw[if_neg h1] at hx hy
      by_cases h2:x.kind=2
      ·rw[if_pos h2] at hx hy
       simp only[decide_eq_true_eq] at hx hy
       exact absurd (by omega) hs
      ·rw[if_neg h2] at hx hy
       by_cases h3:x.kind=3
       ·rw[if_pos h3] at hx hy
        simp only[decide_eq_true_eq] at hx hy
        exact⟨h3,hx.2,hy.2⟩
       ·rw[if_neg h3] at hx hy
        by_cases h4:x.kind=4
        ·rw[if_pos h4] at hx hy
         simp only[Bool.and_eq_true,decide_eq_true_eq] at hx hy
         exact absurd (by omega) hs
        ·rw[if_neg h4] at hx hy
         have h5:x.kind=5:=by omega
         rw[if_pos h5] at hx hy
         simp only[decide_eq_true_eq] at hx hy
         exact absurd (by omega) hs
   obtain⟨h3,s1,s2⟩:=h3
   rw[← hk] at ey
   simp only[h3,if_true,show ¬ (3:Int)=1 by decide,show ¬ (3:Int)=2 by decide,if_false] at ex ey
   rw[ex,ey]
   have b1:=byte_nat (k:=x.scale) (by omega) (by omega)
   have b2:=byte_nat (k:=y.scale) (by omega) (by omega)
   exact⟨_,[_],UInt8.ofNat x.scale.toNat,UInt8.ofNat y.scale.toNat,be8 x.n,be8 y.n,rfl,rfl,fun e=>hs (by rw[← b1,← b2,e]),rfl⟩
  ·rw[ex,ey]
   have b1:=byte_nat (k:=x.kind) (by omega) (by omega)
   have b2:=byte_nat (k:=y.kind) (by omega) (by omega)
   exact⟨_,[],UInt8.ofNat x.kind.toNat,UInt8.ofNat y.kind.toNat,_,_,rfl,rfl,fun e=>hk (by rw[← b1,← b2,e]),rfl⟩
theorem encs_any:∀ (a b:List Val),a.length=b.length→(∀ x∈a,right x=true∧x.in64)→(∀ x∈b,right x=true∧x.in64)→a=b∨∃ z,Dif (encs a) (encs b) z
 |[],[],_,_,_=>.inl rfl
 |x::a,y::b,hl,ha,hb=>by
  obtain⟨h1,h2⟩:=ha x (by simp)
  obtain⟨h3,h4⟩:=hb y (by simp)
  rw[encs_cons,encs_cons]
  rcases enc_any h1 h3 h2 h4 with rfl|⟨z,hd⟩
  ·rcases encs_any a b (by simpa using hl) (fun u hu=>ha u (by simp[hu])) (fun u hu=>hb u (by simp[hu])) with rfl|⟨z,hd⟩
   ·exact .inl rfl
   ·exact .inr ⟨z,hd.pre _⟩
  ·exact .inr ⟨z,hd.append _ _⟩
theorem Dif.lss {a b:List UInt8}{z:Int}(h:Dif a b z):Op.bytesLess a b=decide (z<0):=by rw[lss_txt,h.txt]
end Go.Proofs.YthjmjoioagocdaaGreatDoor
set_option maxRecDepth 100000
namespace Go.Proofs.YthjmjoioagocdaaGreatDoor
open Go.RowKit
abbrev Cel:=Int×Val
def Cel.vs (c:Cel):List Value:=.int .i64 c.1::c.2.cells
def celC (c:Cel):List PV:=.int .i64 c.1::V4.cs c.2
def celsC (l:List Cel):List PV:=l.flatMap celC
theorem celC_len (c:Cel):(celC c).length=5:=rfl
def celG:List PV→Option Cel
 |[.int .i64 j,.int .i64 a,.int .i64 n,.int .i64 c,.str s]=>some (j,⟨a,n,c,s⟩)
 |_=>none
theorem celG_of (c:Cel):celG (celC c)=some c:=rfl
theorem celG_inv (l:List PV)(c:Cel)(h:celG l=some c):l=celC c:=by
 unfold celG at h
 split at h
 ·injection h with h;subst h;rfl
 ·cases h
def colV (l:List Cel)(j:Int):Val :=
 match l with
 |[]=>vnull
 |c::l=>if c.1=j then c.2 else colV l j
end Go.Proofs.YthjmjoioagocdaaGreatDoor
set_option maxRecDepth 100000
namespace Go.Proofs.YthjmjoioagocdaaGreatDoor
open Go.RowKit
def getC {R:Type}(n:Nat)(c:List PV)(j:Int)(K:Val→Option R):Option R:=(decG 5 celG n c).bind fun l=>bif decide (l.length≤1000000) then K (colV l j) else none
theorem getC_eq {R:Type}{l:List Cel}{j:Int}{K:Val→Option R}(h:l.length≤1000000):getC l.length (celsC l) j K=K (colV l j):=by
 unfold getC
 rw[celsC,decG_of celC_len celG_of]
 exact cond_t (decide_eq_true h)
def valP (v:Val):PV:=.agg [.int .i64 v.kind,.int .i64 v.n,.int .i64 v.scale,.str v.s]
def p_colV:PFn:=⟨fun xs k=>match xs with|[.sl _ 5 n c,.int .i64 j]=>(decG 5 celG n c).bind fun l=>bif decide (l.length≤1000000) then k (valP (colV l j)) else none|_=>none,false⟩
theorem p_colV_nat:p_colV.nat:=by
 intro R xs k
 simp only[p_colV]
 split
 ·exact bindL_nat
 ·rfl
def ixC {R:Type}(len:Nat)(c:List PV)(i:Int)(K:Int→Int→Int→Int→List UInt8→Option R):Option R :=
 bif decide (0≤i)&&decide (i<(len:Int)) then
  ((c.drop (i.toNat * 5)).take 5).head?.bind fun v=>(PV.asInt .i64 v).bind fun j=>((c.drop (i.toNat * 5)).take 5).tail.head?.bind fun v=>(PV.asInt .i64 v).bind fun a =>
  ((c.drop (i.toNat * 5)).take 5).tail.tail.head?.bind fun v=>(PV.asInt .i64 v).bind fun n=>((c.drop (i.toNat * 5)).take 5).tail.tail.tail.head?.bind fun v=>(PV.asInt .i64 v).bind fun b =>
  ((c.drop (i.toNat * 5)).take 5).tail.tail.tail.tail.head?.bind fun v=>v.asStr.bind fun s=>K j a n b s else none
theorem ixC_eq {R:Type}{l:List Cel}{i:Nat}{x:Cel}{K:Int→Int→Int→Int→List UInt8→Option R}(h:l[i]? = some x):ixC l.length (celsC l) (i:Int) K=K x.1 x.2.kind x.2.n x.2.scale x.2.s:=by
 have:=(List.getElem?_eq_some_iff.1 h).1
 unfold ixC
 rw[cond_t (by rw[decide_eq_true (by omega),decide_eq_true (by omega)];rfl),Int.toNat_natCast,celsC,flat_at celC_len h]
 rfl
def hRc:Hints:=⟨[],[(0,⟨[(1,false),(4,false),(7,false),(8,false),(9,false)],[4]⟩)]⟩
def frRc (j:Int)(n0:Option Bool)(l0:Nat)(c0:List PV)(L i:Int):St:=frame 21 [(1,(.int .i64 j,0)),(4,(.ptr 4 0,0)),(7,(.sl n0 5 l0 c0,0)),(8,(.int .i64 L,0)),(9,(.int .i64 i,0))] [(4,[(.int .i64 0,0),(.int .i64 0,0),(.int .i64 0,0),(.str [],0)])]
noncomputable def rcLoop (fu n:Nat)(st:St):Option PV:=loopF (en []) hRc fu false Tryz.f54 [1,0,1,0] 0 n st
theorem rcv_raw (fu:Nat)(n0:Option Bool)(l0:Nat)(c0:List PV)(j:Int):prun (en []) hRc fu false Tryz.f54 [.sl n0 5 l0 c0,.int .i64 j]=rcLoop fu fu (frRc j n0 l0 c0 (l0:Int) 0):=prunN_eq.trans (by kernel_rfl)
theorem rcv_step (fu:Nat)(j:Int)(n0:Option Bool)(l0:Nat)(c0:List PV)(L i:Int)(K:St→Option PV) :
  stepF (en []) hRc fu false Tryz.f54 [1,0,1,0] (frRc j n0 l0 c0 L i) (fun st=>pnorm (hRc.loop.lookup 0) st K) =
  bif decide (i<L) then ixC l0 c0 i fun q a n b s=>bif q==j then some (.agg [.int .i64 a,.int .i64 n,.int .i64 b,.str s]) else K (frRc j n0 l0 c0 L (IntKind.i64.wrap (i+1)))
  else some (.agg [.int .i64 0,.int .i64 0,.int .i64 0,.str []]):=by kernel_rfl
theorem rcv_loop (fu:Nat)(j:Int)(n0:Option Bool)(l:List Cel)(hl:l.length≤1000000):∀ (k i n:Nat),i+k=l.length→k<n→rcLoop fu n (frRc j n0 l.length (celsC l) (l.length:Int) (i:Int))=some (valP (colV (l.drop i) j))
 |k,i,0,_,h=>by omega
 |0,i,n+1,hi,hn=>by
  unfold rcLoop
  rw[loopF_succ,rcv_step,cond_f (decide_eq_false (by omega)),List.drop_of_length_le (by omega)]
  rfl
 |k+1,i,n+1,hi,hn=>by
  unfold rcLoop
  have hc:=List.getElem?_eq_getElem (l:=l) (i:=i) (by omega)
  have ih:=rcv_loop fu j n0 l hl k (i+1) n (by omega) (by omega)
  unfold rcLoop at ih
  rw[loopF_succ,rcv_step,cond_t (decide_eq_true (by omega)),ixC_eq hc,wrapI_of (by omega) (by omega),List.drop_eq_getElem_cons (show i<l.length by omega),colV]
  by_cases hx:l[i].1=j
  ·rw[cond_t (by simpa using hx),if_pos hx];rfl
  ·rw[cond_f (by simpa using hx),if_neg hx]
   exact ih
theorem ok_refGet:FOK NGk Tabs 54 p_colV:=by
 refine fok wokk allOK_nil (h:=hRc) Tryz.func54 rfl (by decide) p_colV_nat ?_
 intro xs r h
 simp only[p_colV] at h
 split at h
 ·rename_i nl n c j
  obtain⟨l,h1,hg,rfl⟩:=bindL_inv h
  obtain⟨rfl,rfl⟩:=decG_inv celG_inv h1
  simp only[decide_eq_true_eq] at hg
  exact⟨l.length+1,(rcv_raw _ nl _ _ j).trans (rcv_loop _ j nl l hg l.length 0 _ (by omega) (by omega))⟩
 ·cases h
def colC (l:List Int):List PV:=l.flatMap fun j=>[.int .i64 j]
def intG:List PV→Option Int
 |[.int .i64 j]=>some j
 |_=>none
theorem intG_inv (l:List PV)(j:Int)(h:intG l=some j):l=[.int .i64 j]:=by
 unfold intG at h
 split at h
 ·injection h with h;subst h;rfl
 ·cases h
def ixI {R:Type}(len:Nat)(c:List PV)(i:Int)(K:Int→Option R):Option R :=
 bif decide (0≤i)&&decide (i<(len:Int)) then ((c.drop (i.toNat * 1)).take 1).head?.bind fun v=>(PV.asInt .i64 v).bind K else none
theorem ixI_eq {R:Type}{l:List Int}{i:Nat}{x:Int}{K:Int→Option R}(h:l[i]? = some x):ixI l.length (colC l) (i:Int) K=K x:=by
 have:=(List.getElem?_eq_some_iff.1 h).1
 unfold ixI
 rw[cond_t (by rw[decide_eq_true (by omega),decide_eq_true (by omega)];rfl),Int.toNat_natCast,colC,flat_at (f:=fun j=>[PV.int .i64 j]) (sz:=1) (fun _=>rfl) h]
 rfl
def hVa:Hints:=⟨[],[(0,⟨[(1,false),(5,true),(9,false),(10,false),(11,false)],[]⟩)]⟩
def frVa (n1:Option Bool)(l1:Nat)(c1:List PV)(n5:Option Bool)(l5:Nat)(c5:List PV)(n9:Option Bool)(l9:Nat)(c9:List PV)(L i:Int):St :=
 frame 23 [(1,(.sl n1 5 l1 c1,0)),(5,(.sl n5 4 l5 c5,30)),(9,(.sl n9 1 l9 c9,0)),(10,(.int .i64 L,0)),(11,(.int .i64 i,0))] []
def vaBody (l1:Nat)(c1:List PV)(n5:Option Bool)(l5:Nat)(c5:List PV)(l9:Nat)(c9:List PV)(L i:Int)(G:Option Bool→Nat→List PV→Int→Option PV):Option PV :=
 bif decide (i<L) then ixI l9 c9 i fun j=>getC l1 c1 j fun v=>roomV l5 1 (G (n5.map (· && false)) (l5+1) (c5++V4.cs v) (IntKind.i64.wrap (i+1))) else some (.sl n5 4 l5 c5)
def valsOf (cols:List Int)(l:List Cel):List Val:=cols.map (colV l)
noncomputable def lVr:List (FuncId×PFn):=[(54,p_colV)]
noncomputable def vrLoop (own:Bool)(fu n:Nat)(st:St):Option PV:=loopF (en lVr) hVa fu own Tryz.f22 [1,1,0,1,0] 0 n st
theorem vr_raw (fu:Nat)(x0:Int)(x1:List UInt8)(n9:Option Bool)(l9:Nat)(c9:List PV)(x3:Bool)(x4:Int)(n1:Option Bool)(l1:Nat)(c1:List PV) :
  prun (en lVr) hVa fu true Tryz.f22 [.agg [.int .i64 x0,.str x1,.sl n9 1 l9 c9,.bool x3,.int .i64 x4],.sl n1 5 l1 c1]=vrLoop true fu fu (frVa n1 l1 c1 (some true) 0 [] n9 l9 c9 (l9:Int) 0):=prunN_eq.trans (by kernel_rfl)
theorem vr_step (fu:Nat)(n1:Option Bool)(l1:Nat)(c1:List PV)(n5:Option Bool)(l5:Nat)(c5:List PV)(n9:Option Bool)(l9:Nat)(c9:List PV)(L i:Int)(K:St→Option PV) :
  stepF (en lVr) hVa fu true Tryz.f22 [1,1,0,1,0] (frVa n1 l1 c1 n5 l5 c5 n9 l9 c9 L i) (fun st=>pnorm (hVa.loop.lookup 0) st K)=vaBody l1 c1 n5 l5 c5 l9 c9 L i (fun a b c d=>K (frVa n1 l1 c1 a b c n9 l9 c9 L d)):=by kernel_rfl
theorem va_loop (F:Nat→St→Option PV)(n1:Option Bool)(cels:List Cel)(hcl:cels.length≤1000000)(n9:Option Bool)(cols:List Int)(hco:cols.length≤1000000)
  (hF:∀ n n5 l5 c5 (i:Int),F (n+1) (frVa n1 cels.length (celsC cels) n5 l5 c5 n9 cols.length (colC cols) (cols.length:Int) i)=vaBody cels.length (celsC cels) n5 l5 c5 cols.length (colC cols) (cols.length:Int) i (fun a b c d=>F n (frVa n1 cels.length (celsC cels) a b c n9 cols.length (colC cols) (cols.length:Int) d))) :
  ∀ (k i n:Nat),i+k=cols.length→k<n→F n (frVa n1 cels.length (celsC cels) (some ((cols.take i).isEmpty)) i (valsC (valsOf (cols.take i) cels)) n9 cols.length (colC cols) (cols.length:Int) (i:Int)) =
   some (.sl (some cols.isEmpty) 4 cols.length (valsC (valsOf cols cels)))
 |k,i,0,_,h=>by omega
 |0,i,n+1,hi,hn=>by
  rw[hF]
  unfold vaBody
  rw[cond_f (decide_eq_false (by omega)),List.take_of_length_le (by omega),show i=cols.length by omega]
 |k+1,i,n+1,hi,hn=>by
  have hc:=List.getElem?_eq_getElem (l:=cols) (i:=i) (by omega)
  have ih:=va_loop F n1 cels hcl n9 cols hco hF k (i+1) n (by omega) (by omega)
  have e:valsOf (cols.take (i+1)) cels=valsOf (cols.take i) cels++[colV cels cols[i]]:=by
   unfold valsOf
   rw[List.take_add_one,hc,List.map_append];rfl
  have e2:(cols.take (i+1)).isEmpty=false:=by
   rw[List.take_add_one,hc]
   cases cols.take i<;>rfl
  rw[e,e2,← valsC_snoc] at ih
  rw[hF]
  unfold vaBody
  rw[cond_t (decide_eq_true (by omega)),ixI_eq hc,getC_eq hcl,roomV_eq (by omega),wrapI_of (by omega) (by omega)]
  simp only[Option.map_some,Bool.and_false]
  exact ih
def valsK (n9:Nat)(c9:List PV)(n1:Nat)(c1:List PV):Option (List Int×List Cel):=(decG 1 intG n9 c9).bind fun cols=>(decG 5 celG n1 c1).bind fun l=>if cols.length≤1000000∧l.length≤1000000 then some (cols,l) else none
def valsR (p:List Int×List Cel):PV:=.sl (some p.1.isEmpty) 4 p.1.length (valsC (valsOf p.1 p.2))
def f_Values {R:Type}(xs:List PV)(k:PV→Option R):Option R:=match xs with|[.agg [.int .i64 _,.str _,.sl _ 1 n9 c9,.bool _,.int .i64 _],.sl _ 5 n1 c1]=>(valsK n9 c9 n1 c1).bind fun p=>k (valsR p)|_=>none
def p_Values:PFn:=⟨f_Values,false⟩
def p_ValuesO:PFn:=⟨f_Values,true⟩
theorem f_Values_nat:p_Values.nat:=by
 intro R xs k
 simp only[p_Values,f_Values]
 split
 ·cases valsK _ _ _ _<;>rfl
 ·rfl
theorem valsK_inv {n9:Nat}{c9:List PV}{n1:Nat}{c1:List PV}{p:List Int×List Cel}(h:valsK n9 c9 n1 c1=some p):n9=p.1.length∧c9=colC p.1∧n1=p.2.length∧c1=celsC p.2∧p.1.length≤1000000∧p.2.length≤1000000:=by
 unfold valsK at h
 obtain⟨cols,h1,h⟩:=Option.bind_eq_some_iff.1 h
 obtain⟨l,h2,h⟩:=Option.bind_eq_some_iff.1 h
 split at h
 ·rename_i hl
  injection h with h
  subst h
  obtain⟨e1,e2⟩:=decG_inv intG_inv h1
  obtain⟨e3,e4⟩:=decG_inv celG_inv h2
  exact⟨e1,e2,e3,e4,hl⟩
 ·cases h
theorem ok_ValuesO (hr:FOK NGk Tabs 54 p_colV):FOK NGk Tabs 22 p_ValuesO:=by
 refine fok wokk (allOK_cons hr allOK_nil) (h:=hVa) Tryz.func22 rfl (by decide) f_Values_nat ?_
 intro xs r h
 simp only[p_ValuesO,f_Values] at h
 split at h
 ·rename_i x0 x1 n9 l9 c9 x3 x4 n1 l1 c1
  obtain⟨p,h1,h2⟩:=Option.bind_eq_some_iff.1 h
  injection h2 with h2
  subst h2
  obtain⟨rfl,rfl,rfl,rfl,g1,g2⟩:=valsK_inv h1
  refine⟨p.1.length+1,(vr_raw _ x0 x1 n9 _ _ x3 x4 n1 _ _).trans ?_⟩
  exact va_loop (fun n st=>vrLoop true (p.1.length+1) n st) n1 p.2 g2 n9 p.1 g1 (fun n n5 l5 c5 i=>by unfold vrLoop;rw[loopF_succ,vr_step]) p.1.length 0 _ (by omega) (by omega)
 ·cases h
theorem fok_noown {NG:Nat}{W:World→Prop}{f:FuncId}{p:PFn}(hp:FOK NG W f p):FOK NG W f ⟨p.F,false⟩ where
 nat:=hp.nat
 call:=by
  intro M xs vs r hW hng hg hr hF
  have k:=hp.call M xs vs r hW hng hg hr hF
  refine k.imp ?_ ?_
  ·rintro ⟨v,w',h1,U',h2,h3,_⟩
   exact⟨v,w',h1,U',h2,h3,fun e=>by cases e⟩
  ·rintro ⟨h0,h1⟩
   refine⟨h0,h1.mono ?_⟩
   rintro e w' ⟨v,h2,U',h3,h4,_⟩
   exact⟨v,h2,U',h3,h4,fun e=>by cases e⟩
theorem ok_Values (hr:FOK NGk Tabs 54 p_colV):FOK NGk Tabs 22 p_Values:=fok_noown (ok_ValuesO hr)
end Go.Proofs.YthjmjoioagocdaaGreatDoor
set_option maxRecDepth 100000
namespace Go.Proofs.YthjmjoioagocdaaGreatDoor
open Go.RowKit
theorem nv_raw (n:Int):prun (en []) ⟨[],[]⟩ 0 false Tryz.f64 [.int .i64 n]=some (.agg [.int .i64 2,.int .i64 n,.int .i64 0,.str []]):=by kernel_rfl
def p_numV:PFn:=⟨fun xs k=>match xs with|[.int .i64 n]=>k (.agg [.int .i64 2,.int .i64 n,.int .i64 0,.str []])|_=>none,false⟩
theorem ok_numV:FOK NGk Tabs 64 p_numV:=by
 refine fok wokk allOK_nil (h:=⟨[],[]⟩) Tryz.func64 rfl (by decide) ?_ ?_
 ·intro R xs k
  simp only[p_numV]
  split<;>rfl
 ·intro xs r h
  simp only[p_numV] at h
  split at h
  ·exact⟨0,(nv_raw _).trans h⟩
  ·cases h
noncomputable def lBg:List (FuncId×PFn):=[(64,p_numV)]
def bgC (a b:Int)(c:List PV):List PV:=.int .i64 2::.int .i64 a::.int .i64 0::.str []::.int .i64 2::.int .i64 b::.int .i64 0::.str []::c
theorem bg_raw (a b:Int)(n2:Option Bool)(l2:Nat)(c2:List PV):prun (en lBg) ⟨[],[]⟩ 0 true Tryz.f78 [.int .i64 a,.int .i64 b,.sl n2 4 l2 c2] =
  roomV 2 l2 (some (.sl (some false) 4 (2+l2) (bgC a b c2))):=by kernel_rfl
def p_begin:PFn:=⟨fun xs k=>match xs with|[.int .i64 a,.int .i64 b,.sl _ 4 n c]=>bif decide (n≤1000000) then k (.sl (some false) 4 (2+n) (bgC a b c)) else none|_=>none,true⟩
theorem ok_begin:FOK NGk Tabs 78 p_begin:=by
 refine fok wokk (allOK_cons ok_numV allOK_nil) (h:=⟨[],[]⟩) Tryz.func78 rfl (by decide) ?_ ?_
 ·intro R xs k
  simp only[p_begin]
  split
  ·exact cond_nat
  ·rfl
 ·intro xs r h
  simp only[p_begin] at h
  split at h
  ·rename_i a b nl n c
   rcases hb:decide (n≤1000000) with _|_<;>rw[hb] at h
   ·cases h
   ·simp only[decide_eq_true_eq] at hb
    exact⟨0,(bg_raw a b nl n c).trans ((roomV_eq (by omega)).trans h)⟩
  ·cases h
theorem bgC_vals (a b:Int)(l:List Val):bgC a b (valsC l)=valsC (numV a::numV b::l):=rfl
def p_Above:PFn:=⟨fun xs k=>match xs with|[.sl _ 1 n c]=>(decY n c).bind fun l=>bif decide (l.length≤1000000) then k (.sl none 1 (aboveL l).length (bC (aboveL l))) else none|_=>none,false⟩
theorem ok_Above:FOK NGk Tabs 50 p_Above:=by
 refine fok_new Tryz.func50 (by kernel_rfl) (by decide) ?_ rfl ?_
 ·intro R xs k
  simp only[p_Above]
  split
  ·exact bindY_nat
  ·rfl
 ·intro xs r M vs hW h hr
  simp only[p_Above] at h
  split at h
  ·rename_i nl n c
   obtain⟨l,h1,hg,rfl⟩:=bindY_inv h
   obtain⟨rfl,rfl⟩:=decY_inv h1
   simp only[decide_eq_true_eq] at hg
   obtain⟨v,rfl,h2⟩:=relT1 hr
   obtain⟨A,c,rfl,hs⟩:=sl_bytes h2
   refine (keysAbove_any M.w A l.length c l hs hg).mono ?_
   rintro e w' ⟨A',c',rfl,ho,_,hbl⟩
   exact⟨_,rfl,hbl,fun U' hU=>rel_own ho hU⟩
  ·cases h
def abO {R:Type}(n:Nat)(c:List PV)(K:List UInt8→Option R):Option R:=(decY n c).bind fun l=>bif decide (l.length≤1000000) then K (aboveL l) else none
theorem abO_eq {R:Type}{l:List UInt8}{K:List UInt8→Option R}(h:l.length≤1000000):abO l.length (bC l) K=K (aboveL l):=by
 unfold abO;rw[decY_bC];exact cond_t (decide_eq_true h)
theorem sp_raw (s:List UInt8):prun (en [(50,p_Above)]) ⟨[],[]⟩ 0 false Tryz.f63 [.str s] =
  bif decide (s.length≤9223372036854775807) then abO s.length (bC s) fun a=>(pbytes (bC a)).bind fun t=>some (.tuple [.str s,.str t]) else none:=by kernel_rfl
def p_span:PFn:=⟨fun xs k=>match xs with|[.str s]=>bif decide (s.length≤1000000) then k (.tuple [.str s,.str (aboveL s)]) else none|_=>none,false⟩
theorem ok_span:FOK NGk Tabs 63 p_span:=by
 refine fok wokk (allOK_cons ok_Above allOK_nil) (h:=⟨[],[]⟩) Tryz.func63 rfl (by decide) ?_ ?_
 ·intro R xs k
  simp only[p_span]
  split
  ·exact cond_nat
  ·rfl
 ·intro xs r h
  simp only[p_span] at h
  split at h
  ·rename_i s
   rcases hb:decide (s.length≤1000000) with _|_<;>rw[hb] at h
   ·cases h
   ·simp only[decide_eq_true_eq] at hb
    refine⟨0,(sp_raw s).trans ?_⟩
    rw[cond_t (decide_eq_true (by omega)),abO_eq hb,pbytes_bC]
    exact h
  ·cases h
def bgO {R:Type}(n:Nat)(k:Option R):Option R:=bif decide (n≤1000000) then k else none
def valsO {R:Type}(n9:Nat)(c9:List PV)(n1:Nat)(c1:List PV)(K:List Int×List Cel→Option R):Option R:=(valsK n9 c9 n1 c1).bind K
theorem valsK_of {cols:List Int}{l:List Cel}(h1:cols.length≤1000000)(h2:l.length≤1000000):valsK cols.length (colC cols) l.length (celsC l)=some (cols,l):=by
 unfold valsK
 rw[colC,decG_of (f:=fun j=>[PV.int .i64 j]) (sz:=1) (fun _=>rfl) (fun _=>rfl),celsC,decG_of celC_len celG_of]
 exact if_pos ⟨h1,h2⟩
def entL (t x0:Int)(cols:List Int)(l:List Cel)(r0:Int):List UInt8:=105::encs (numV t::numV x0::(valsOf cols l++[numV r0]))
def entK (n9:Nat)(c9:List PV)(n1:Nat)(c1:List PV):Option (List Int×List Cel):=(valsK n9 c9 n1 c1).bind fun p=>if p.1.length≤90000 then some p else none
theorem valsOf_len (cols:List Int)(l:List Cel):(valsOf cols l).length=cols.length:=by simp[valsOf]
noncomputable def lSp:List (FuncId×PFn):=[(78,p_begin),(49,p_KeysPut),(63,p_span)]
def spO {R:Type}(s:List UInt8)(K:List UInt8→Option R):Option R:=bif decide (s.length≤1000000) then K (aboveL s) else none
theorem ss_raw (t x0:Int)(n2:Option Bool)(l2:Nat)(c2:List PV):prun (en lSp) ⟨[],[]⟩ 0 false Tryz.f48 [.int .i64 t,.int .i64 x0,.sl n2 4 l2 c2] =
  bgO l2 (putO (2+l2) (bgC t x0 c2) fun y=>(pbytes (bC y)).bind fun s=>catO [105] s (spO (105::s) fun a=>some (.tuple [.str (105::s),.str a]))):=by kernel_rfl
def fromL (t x0:Int)(l:List Val):List UInt8:=105::encs (numV t::numV x0::l)
def p_Span:PFn:=⟨fun xs k=>match xs with|[.int .i64 t,.int .i64 x0,.sl _ 4 n c]=>(decV n c).bind fun l=>bif decide (l.length≤1000) then k (.tuple [.str (fromL t x0 l),.str (aboveL (fromL t x0 l))]) else none|_=>none,false⟩
theorem ok_Span:FOK NGk Tabs 48 p_Span:=by
 refine fok wokk (allOK_cons ok_begin (allOK_cons ok_KeysPut (allOK_cons ok_span allOK_nil))) (h:=⟨[],[]⟩) Tryz.func48 rfl (by decide) ?_ ?_
 ·intro R xs k
  simp only[p_Span]
  split
  ·exact bindV_nat
  ·rfl
 ·intro xs r h
  simp only[p_Span] at h
  split at h
  ·rename_i t x0 nl n c
   obtain⟨l,h1,hg,rfl⟩:=bindV_inv h
   obtain⟨rfl,rfl⟩:=decV_inv h1
   simp only[decide_eq_true_eq] at hg
   refine⟨0,(ss_raw t x0 nl _ _).trans ?_⟩
   have hle:=encs_length (numV t::numV x0::l)
   have el:2+l.length=(numV t::numV x0::l).length:=by simp only[List.length_cons];omega
   rw[bgO,cond_t (decide_eq_true (by omega)),bgC_vals,el,putO_eq (by rw[← el];omega),pbytes_bC]
   simp only[Option.bind_some]
   rw[← el] at hle
   rw[catO_eq (by simp only[List.length_cons,List.length_nil];omega),spO,cond_t (decide_eq_true (by simp only[List.length_cons];omega))]
   rfl
  ·cases h
def hSm:Hints:=⟨[],[(2,⟨[(10,false),(11,false),(12,false),(21,false),(22,false),(23,false)],[]⟩),(0,⟨[(10,false),(11,false),(12,false)],[]⟩)]⟩
def rowR:Int→List Cel→Bool
 |_,[]=>true
 |was,c::l=>bif decide (c.1≤was)||c.2.kind==0 then false else bif right c.2 then rowR c.1 l else false
def hRr:Hints:=⟨[],[(0,⟨[(3,false),(6,false),(7,false),(8,false)],[]⟩)]⟩
def frRr (was:Int)(n0:Option Bool)(l0:Nat)(c0:List PV)(L i:Int):St:=frame 31 [(3,(.int .i64 was,0)),(6,(.sl n0 5 l0 c0,0)),(7,(.int .i64 L,0)),(8,(.int .i64 i,0))] []
noncomputable def lRr:List (FuncId×PFn):=[(44,p_rightV)]
noncomputable def rrLoop (fu n:Nat)(st:St):Option PV:=loopF (en lRr) hRr fu false Tryz.f16 [1,1,0,1,0] 0 n st
theorem rr_raw (fu:Nat)(n0:Option Bool)(l0:Nat)(c0:List PV):prun (en lRr) hRr fu false Tryz.f16 [.sl n0 5 l0 c0]=rrLoop fu fu (frRr (-1) n0 l0 c0 (l0:Int) 0):=prunN_eq.trans (by kernel_rfl)
def rightO' {R:Type}(a n c:Int)(s:List UInt8)(K:Bool→Option R):Option R:=bif decide (s.length≤1000000) then K (rightB a n c s) else none
theorem rr_step (fu:Nat)(was:Int)(n0:Option Bool)(l0:Nat)(c0:List PV)(L i:Int)(K:St→Option PV) :
  stepF (en lRr) hRr fu false Tryz.f16 [1,1,0,1,0] (frRr was n0 l0 c0 L i) (fun st=>pnorm (hRr.loop.lookup 0) st K) =
  bif decide (i<L) then ixC l0 c0 i fun q a n b s=>bif !(decide (q≤was)||a==0) then rightO' a n b s fun g=>bif !g then some (.bool false) else K (frRr q n0 l0 c0 L (IntKind.i64.wrap (i+1))) else some (.bool false)
  else some (.bool true):=by kernel_rfl
theorem rr_loop (fu:Nat)(n0:Option Bool)(l:List Cel)(hl:l.length≤1000000)(hs:∀ c∈l,c.2.s.length≤1000000):∀ (k i n:Nat) (was:Int),i+k=l.length→k<n →
  rrLoop fu n (frRr was n0 l.length (celsC l) (l.length:Int) (i:Int))=some (.bool (rowR was (l.drop i)))
 |k,i,0,_,_,h=>by omega
 |0,i,n+1,was,hi,hn=>by
  unfold rrLoop
  rw[loopF_succ,rr_step,cond_f (decide_eq_false (by omega)),List.drop_of_length_le (by omega)]
  rfl
 |k+1,i,n+1,was,hi,hn=>by
  unfold rrLoop
  have hc:=List.getElem?_eq_getElem (l:=l) (i:=i) (by omega)
  have hsc:=hs l[i] (List.getElem_mem _)
  have ih:=rr_loop fu n0 l hl hs k (i+1) n l[i].1 (by omega) (by omega)
  unfold rrLoop at ih
  rw[loopF_succ,rr_step,cond_t (decide_eq_true (by omega)),ixC_eq hc,wrapI_of (by omega) (by omega),List.drop_eq_getElem_cons (show i<l.length by omega),rowR,rightO',cond_t (decide_eq_true hsc),right_B]
  cases decide (l[i].1≤was)||l[i].2.kind==0
  ·cases right l[i].2
   ·rfl
   ·exact ih
  ·rfl
def p_rowR:PFn:=⟨fun xs k=>match xs with|[.sl _ 5 n c]=>(decG 5 celG n c).bind fun l=>bif decide (l.length≤1000000)&&l.all (fun c=>decide (c.2.s.length≤1000000)) then k (.bool (rowR (-1) l)) else none|_=>none,false⟩
theorem ok_rowR:FOK NGk Tabs 16 p_rowR:=by
 refine fok wokk (allOK_cons ok_rightR allOK_nil) (h:=hRr) Tryz.func16 rfl (by decide) ?_ ?_
 ·intro R xs k
  simp only[p_rowR]
  split
  ·exact bindL_nat
  ·rfl
 ·intro xs r h
  simp only[p_rowR] at h
  split at h
  ·rename_i nl n c
   obtain⟨l,h1,hg,rfl⟩:=bindL_inv h
   obtain⟨rfl,rfl⟩:=decG_inv celG_inv h1
   simp only[Bool.and_eq_true,decide_eq_true_eq,List.all_eq_true] at hg
   exact⟨l.length+1,(rr_raw _ nl _ _).trans (rr_loop _ nl l hg.1 hg.2 l.length 0 _ (-1) (by omega) (by omega))⟩
  ·cases h
end Go.Proofs.YthjmjoioagocdaaGreatDoor
set_option maxRecDepth 100000
namespace Go.Proofs.YthjmjoioagocdaaGreatDoor
open Go.RowKit
end Go.Proofs.YthjmjoioagocdaaGreatDoor
set_option maxRecDepth 100000
namespace Go.Proofs.YthjmjoioagocdaaGreatDoor
open Go.RowKit
theorem fok_at {NG:Nat}{W:World→Prop}{f:FuncId}{p q:PFn}(hp:FOK NG W f p)(hn:q.nat)(ho:q.own=false)(h:∀ xs r,q.F xs (R:=PV) some=some r→p.F xs (R:=PV) some=some r):FOK NG W f q where
 nat:=hn
 call:=by
  intro M xs vs r hW hng hg hr hF
  have k:=hp.call M xs vs r hW hng hg hr (h xs r hF)
  refine k.imp ?_ ?_
  ·rintro ⟨v,w',h1,U',h2,h3,_⟩
   exact⟨v,w',h1,U',h2,h3,fun e=>by rw[ho] at e;cases e⟩
  ·rintro ⟨h0,h1⟩
   refine⟨h0,h1.mono ?_⟩
   rintro e w' ⟨v,h2,U',h3,h4,_⟩
   exact⟨v,h2,U',h3,h4,fun e=>by rw[ho] at e;cases e⟩
abbrev Rw:=Int×Option Bool×List Cel
def rwC (r:Rw):List PV:=[.int .i64 r.1,.sl r.2.1 5 r.2.2.length (celsC r.2.2)]
def rwG:List PV→Option Rw
 |[.int .i64 i,.sl nl 5 n c]=>(decG 5 celG n c).map fun l=>(i,nl,l)
 |_=>none
theorem rwG_of (r:Rw):rwG (rwC r)=some r:=by
 obtain⟨i,nl,l⟩:=r
 show (decG 5 celG l.length (celsC l)).map _=_
 rw[celsC,decG_of celC_len celG_of];rfl
theorem rwG_inv (c:List PV)(r:Rw)(h:rwG c=some r):c=rwC r:=by
 unfold rwG at h
 split at h
 ·obtain⟨l,h1,rfl⟩:=Option.map_eq_some_iff.1 h
  obtain⟨rfl,rfl⟩:=decG_inv celG_inv h1
  rfl
 ·cases h
theorem rwC_len (r:Rw):(rwC r).length=2:=rfl
def ixR {R:Type}(len:Nat)(c:List PV)(i:Int)(K:Option Bool→Nat→List PV→Option R):Option R :=
 bif decide (0≤i)&&decide (i<(len:Int)) then ((c.drop (i.toNat * 2)).take 2).head?.bind fun v=>(PV.asInt .i64 v).bind fun _=>((c.drop (i.toNat * 2)).take 2).tail.head?.bind fun v=>(PV.asSl 5 v).bind fun v=>K v.1 v.2.1 v.2.2 else none
theorem ixR_eq {R:Type}{rs:List Rw}{i:Nat}{r:Rw}{K:Option Bool→Nat→List PV→Option R}(h:rs[i]? = some r):ixR rs.length (rs.flatMap rwC) (i:Int) K=K r.2.1 r.2.2.length (celsC r.2.2):=by
 have:=(List.getElem?_eq_some_iff.1 h).1
 unfold ixR
 rw[cond_t (by rw[decide_eq_true (by omega),decide_eq_true (by omega)];rfl),Int.toNat_natCast,flat_at rwC_len h]
 rfl
def frSo (n0:Option Bool)(l0:Nat)(c0:List PV)(L i:Int):St:=frame 34 [(10,(.sl n0 2 l0 c0,0)),(11,(.int .i64 L,0)),(12,(.int .i64 i,0))] []
def frSi (n0:Option Bool)(l0:Nat)(c0:List PV)(L i:Int)(n1:Option Bool)(l1:Nat)(c1:List PV)(M j:Int):St :=
 frame 34 [(10,(.sl n0 2 l0 c0,0)),(11,(.int .i64 L,0)),(12,(.int .i64 i,0)),(21,(.sl n1 5 l1 c1,0)),(22,(.int .i64 M,0)),(23,(.int .i64 j,0))] []
noncomputable def smLoop (fu n:Nat)(st:St):Option PV:=loopF (en []) hSm fu false Tryz.f25 [1,1,0,1,0] 0 n st
noncomputable def siLoop (fu:Nat)(K:St→Option PV)(n:Nat)(st:St):Option PV:=loopP (en []) hSm fu false Tryz.f25 (fun st=>pnorm (hSm.loop.lookup 0) st K) [1,1,0,1,0,0,1,1,0,0,1,1,1,0] 2 n st
theorem sm_raw (fu:Nat)(n0:Option Bool)(l0:Nat)(c0:List PV):prun (en []) hSm fu false Tryz.f25 [.sl n0 2 l0 c0]=bif decide (60<(l0:Int)) then some (.bool false) else smLoop fu fu (frSo n0 l0 c0 (l0:Int) 0):=prunN_eq.trans (by kernel_rfl)
theorem sm_step (fu:Nat)(n0:Option Bool)(l0:Nat)(c0:List PV)(L i:Int)(K:St→Option PV) :
  stepF (en []) hSm fu false Tryz.f25 [1,1,0,1,0] (frSo n0 l0 c0 L i) (fun st=>pnorm (hSm.loop.lookup 0) st K) =
  bif decide (i<L) then ixR l0 c0 i fun nl n c=>bif decide (20<(n:Int)) then some (.bool false) else siLoop fu K fu (frSi n0 l0 c0 L i nl n c (n:Int) 0) else some (.bool true):=(stepF_eq (by kernel_rfl)).trans (by kernel_rfl)
theorem si_step (fu:Nat)(n0:Option Bool)(l0:Nat)(c0:List PV)(L i:Int)(n1:Option Bool)(l1:Nat)(c1:List PV)(M j:Int)(K K2:St→Option PV) :
  stepP (en []) hSm fu false Tryz.f25 [1,1,0,1,0,0,1,1,0,0,1,1,1,0] (fun st=>pnorm (hSm.loop.lookup 0) st K) (frSi n0 l0 c0 L i n1 l1 c1 M j) (fun st=>pnorm (hSm.loop.lookup 2) st K2) =
  bif decide (j<M) then ixC l1 c1 j fun _ _ _ _ s=>bif decide (250<(s.length:Int)) then some (.bool false) else K2 (frSi n0 l0 c0 L i n1 l1 c1 M (IntKind.i64.wrap (j+1)))
  else K (frSo n0 l0 c0 L (IntKind.i64.wrap (i+1))):=(stepP_eq (by kernel_rfl)).trans (by kernel_rfl)
def celSm (c:Cel):Bool:=decide (c.2.s.length≤250)
theorem si_loop (fu:Nat)(K:St→Option PV)(n0:Option Bool)(l0:Nat)(c0:List PV)(L:Int)(i:Int)(n1:Option Bool)(l:List Cel)(hl:l.length≤1000000):∀ (k j n:Nat),j+k=l.length→k<n →
  siLoop fu K n (frSi n0 l0 c0 L i n1 l.length (celsC l) (l.length:Int) (j:Int))=bif (l.drop j).all celSm then K (frSo n0 l0 c0 L (IntKind.i64.wrap (i+1))) else some (.bool false)
 |k,j,0,_,h=>by omega
 |0,j,n+1,hj,hn=>by
  unfold siLoop
  rw[loopP_succ,si_step,cond_f (decide_eq_false (by omega)),List.drop_of_length_le (by omega)]
  rfl
 |k+1,j,n+1,hj,hn=>by
  have ih:=si_loop fu K n0 l0 c0 L i n1 l hl k (j+1) n (by omega) (by omega)
  have hc:=List.getElem?_eq_getElem (l:=l) (i:=j) (by omega)
  unfold siLoop at ih ⊢
  rw[loopP_succ,si_step,cond_t (decide_eq_true (by omega)),ixC_eq hc,wrapI_of (x:=(j:Int)+1) (by omega) (by omega),List.drop_eq_getElem_cons (show j<l.length by omega),List.all_cons]
  by_cases hx:250<l[j].2.s.length
  ·rw[cond_t (decide_eq_true (by omega)),show celSm l[j]=false from decide_eq_false (by omega)]
   rfl
  ·rw[cond_f (decide_eq_false (by omega)),show celSm l[j]=true from decide_eq_true (by omega),Bool.true_and]
   exact ih
def rwSm (r:Rw):Bool:=decide (r.2.2.length≤20)&&r.2.2.all celSm
theorem sm_loop (fu:Nat)(hfu:21<fu)(n0:Option Bool)(rs:List Rw)(hl:rs.length≤1000000):∀ (k i n:Nat),i+k=rs.length→k<n →
  smLoop fu n (frSo n0 rs.length (rs.flatMap rwC) (rs.length:Int) (i:Int))=some (.bool ((rs.drop i).all rwSm))
 |k,i,0,_,h=>by omega
 |0,i,n+1,hi,hn=>by
  unfold smLoop
  rw[loopF_succ,sm_step,cond_f (decide_eq_false (by omega)),List.drop_of_length_le (by omega)]
  rfl
 |k+1,i,n+1,hi,hn=>by
  have ih:=sm_loop fu hfu n0 rs hl k (i+1) n (by omega) (by omega)
  have hc:=List.getElem?_eq_getElem (l:=rs) (i:=i) (by omega)
  unfold smLoop at ih ⊢
  rw[loopF_succ,sm_step,cond_t (decide_eq_true (by omega)),ixR_eq hc,List.drop_eq_getElem_cons (show i<rs.length by omega),List.all_cons]
  by_cases h20:20<rs[i].2.2.length
  ·rw[cond_t (decide_eq_true (by omega)),show rwSm rs[i]=false by unfold rwSm;rw[decide_eq_false (by omega)];rfl]
   rfl
  ·rw[cond_f (decide_eq_false (by omega))]
   have:=si_loop fu (loopF (en []) hSm fu false Tryz.f25 [1,1,0,1,0] 0 n) n0 rs.length (rs.flatMap rwC) (rs.length:Int) (i:Int) rs[i].2.1 rs[i].2.2 (by omega) rs[i].2.2.length 0 fu (by omega) (by omega)
   rw[List.drop_zero] at this
   refine Eq.trans this ?_
   rw[show rwSm rs[i]=rs[i].2.2.all celSm by unfold rwSm;rw[decide_eq_true (by omega),Bool.true_and]]
   cases rs[i].2.2.all celSm
   ·rfl
   ·rw[cond_true,Bool.true_and,wrapI_of (by omega) (by omega)]
    exact ih
def smS (rs:List Rw):Bool:=decide (rs.length≤60)&&rs.all rwSm
def p_Small:PFn:=⟨fun xs k=>match xs with|[.sl _ 2 n c]=>(decG 2 rwG n c).bind fun rs=>bif decide (rs.length≤1000000) then k (.bool (smS rs)) else none|_=>none,false⟩
theorem ok_Small:FOK NGk Tabs 25 p_Small:=by
 refine fok wokk allOK_nil (h:=hSm) Tryz.func25 rfl (by decide) ?_ ?_
 ·intro R xs k
  simp only[p_Small]
  split
  ·exact bindL_nat
  ·rfl
 ·intro xs r h
  simp only[p_Small] at h
  split at h
  ·rename_i nl n c
   obtain⟨rs,h1,hg,rfl⟩:=bindL_inv h
   obtain⟨rfl,rfl⟩:=decG_inv rwG_inv h1
   simp only[decide_eq_true_eq] at hg
   refine⟨rs.length+30,(sm_raw _ nl _ _).trans ?_⟩
   unfold smS
   by_cases h60:60<rs.length
   ·rw[cond_t (decide_eq_true (by omega)),decide_eq_false (by omega)];rfl
   ·rw[cond_f (decide_eq_false (by omega)),decide_eq_true (by omega),Bool.true_and]
    exact sm_loop _ (by omega) nl rs hg rs.length 0 _ (by omega) (by omega)
  ·cases h
def smO {R:Type}(n:Nat)(c:List PV)(K:Bool→Option R):Option R:=(decG 2 rwG n c).bind fun rs=>bif decide (rs.length≤1000000) then K (smS rs) else none
def rrO {R:Type}(n:Nat)(c:List PV)(K:Bool→Option R):Option R:=(decG 5 celG n c).bind fun l=>bif decide (l.length≤1000000)&&l.all (fun c=>decide (c.2.s.length≤1000000)) then K (rowR (-1) l) else none
def spnO {R:Type}(t x0:Int)(n:Nat)(c:List PV)(K:List UInt8→List UInt8→Option R):Option R:=(decV n c).bind fun l=>bif decide (l.length≤1000) then K (fromL t x0 l) (aboveL (fromL t x0 l)) else none
end Go.Proofs.YthjmjoioagocdaaGreatDoor
set_option maxRecDepth 100000
namespace Go.Proofs.YthjmjoioagocdaaGreatDoor
open Go.RowKit
theorem rowR_right:∀ (l:List Cel) (was:Int),rowR was l=true→∀ c∈l,right c.2=true
 |[],_,_,_,hc=>by cases hc
 |x::l,was,h,c,hc=>by
  rw[rowR] at h
  cases h1:(decide (x.1≤was)||x.2.kind==0)<;>rw[h1] at h
  ·cases h2:right x.2<;>rw[h2] at h
   ·cases h
   ·rcases List.mem_cons.1 hc with rfl|hc
    ·exact h2
    ·exact rowR_right l x.1 h c hc
  ·cases h
theorem colV_mem:∀ (l:List Cel) (j:Int),colV l j=vnull∨∃ c∈l,colV l j=c.2
 |[],_=>.inl rfl
 |x::l,j=>by
  rw[colV]
  split
  ·exact .inr ⟨x,by simp,rfl⟩
  ·rcases colV_mem l j with h|⟨c,hc,h⟩
   ·exact .inl h
   ·exact .inr ⟨c,by simp[hc],h⟩
theorem valsOf_ok {cols:List Int}{l:List Cel}(hr:rowR (-1) l=true)(h64:∀ c∈l,c.2.in64):∀ x∈valsOf cols l,right x=true∧x.in64:=by
 intro x hx
 obtain⟨j,_,rfl⟩:=List.mem_map.1 hx
 rcases colV_mem l j with h|⟨c,hc,h⟩
 ·rw[h];exact⟨right_null,null64⟩
 ·rw[h];exact⟨rowR_right l (-1) hr c hc,h64 c hc⟩
theorem rrO_eq {R:Type}{l:List Cel}{K:Bool→Option R}(hl:l.length≤20)(hs:l.all celSm=true):rrO l.length (celsC l) K=K (rowR (-1) l):=by
 unfold rrO
 rw[celsC,decG_of celC_len celG_of]
 refine cond_t ?_
 rw[decide_eq_true (show l.length≤1000000 by omega),Bool.true_and,List.all_eq_true]
 intro c hc
 have:=List.all_eq_true.1 hs c hc
 simp only[celSm,decide_eq_true_eq] at this
 exact decide_eq_true (by omega)
theorem spnO_eq {R:Type}{t x0:Int}{l:List Val}{K:List UInt8→List UInt8→Option R}(h:l.length≤1000):spnO t x0 l.length (valsC l) K=K (fromL t x0 l) (aboveL (fromL t x0 l)):=by
 unfold spnO
 rw[decV_vals]
 exact cond_t (decide_eq_true h)
end Go.Proofs.YthjmjoioagocdaaGreatDoor
set_option maxRecDepth 100000
namespace Go.Proofs.YthjmjoioagocdaaGreatDoor
open Go.ChangeShapes Go.WideShapes Go.ChangeAt Go.RowKit Go.Deep
instance:Inhabited Cel:=⟨(0,vnull)⟩
end Go.Proofs.YthjmjoioagocdaaGreatDoor
end
section
set_option maxRecDepth 100000
namespace Go.Proofs.YthjmjoioagocdaaGreatDoor
open Go.RowKit
def hRn:Hints:=⟨[],[(1,⟨[(0,false),(2,false),(4,false),(5,false),(6,false),(7,false)],[2,4]⟩),(3,⟨[(0,false),(2,false),(4,false),(8,true),(9,false)],[2,4]⟩)]⟩
def z4:List TV:=[(.int .i64 0,0),(.int .i64 0,0),(.int .i64 0,0),(.str [],0)]
def frRa (l:List UInt8)(a n c:Int)(s:List UInt8)(m u i:Int):St :=
 frame 133 [(0,(.str l,0)),(2,(.ptr 2 0,0)),(4,(.ptr 4 0,0)),(5,(.int .i64 m,0)),(6,(.int .u64 u,0)),(7,(.int .i64 i,0))] [(2,z4),(4,[(.int .i64 a,0),(.int .i64 n,0),(.int .i64 c,0),(.str s,0)])]
def frRb (l:List UInt8)(a n c:Int)(s:List UInt8)(n8:Option Bool)(l8:Nat)(c8:List PV)(i:Int):St :=
 frame 133 [(0,(.str l,0)),(2,(.ptr 2 0,0)),(4,(.ptr 4 0,0)),(8,(.sl n8 1 l8 c8,143)),(9,(.int .i64 i,0))] [(2,z4),(4,[(.int .i64 a,0),(.int .i64 n,0),(.int .i64 c,0),(.str s,0)])]
noncomputable def lRn:List (FuncId×PFn):=[(44,p_rightV),(46,p_One)]
noncomputable def raLoop (fu n:Nat)(st:St):Option PV:=loopF (en lRn) hRn fu false Tryz.f75 [1,1,1,1,0,1,0,1,1,1,0,1,1,1,1,0,1,0] 1 n st
noncomputable def rbLoop (fu n:Nat)(st:St):Option PV:=loopF (en lRn) hRn fu false Tryz.f75 [1,1,1,1,0,1,0,1,1,1,1,1,0,1,1,0,0] 3 n st
def nulR:Option PV:=some (.tuple [.agg [.int .i64 0,.int .i64 0,.int .i64 0,.str []],.int .i64 0])
def rgtO {R:Type}(a n c:Int)(s:List UInt8)(K:Bool→Option R):Option R:=bif decide (s.length≤1000000) then K (rightB a n c s) else none
def finR (l:List UInt8)(a n c:Int)(s:List UInt8)(m:Int):Option PV :=
 bif !decide ((l.length:Int)<m) then rgtO a n c s fun b=>bif !!b then oneO a n c s fun y=>bif decide (0≤m)&&decide (m≤(l.length:Int)) then bif !(y==(l.take m.toNat).drop 0) then nulR else some (.tuple [.agg [.int .i64 a,.int .i64 n,.int .i64 c,.str s],.int .i64 m]) else none
  else nulR else nulR
def numR (l:List UInt8)(a n:Int)(L:Int→Int→Option PV):Option PV :=
 ixS l 0 fun b=>bif decide ((l.length:Int)<IntKind.i64.wrap (IntKind.i64.wrap (8+IntKind.i64.wrap (b.toNat:Int))-1)) then nulR else
  ixS l 0 fun d=>bif (d.toNat:Int)==3 then ixS l 1 fun e=>L (IntKind.i64.wrap (e.toNat:Int)) (IntKind.i64.wrap (IntKind.i64.wrap (8+IntKind.i64.wrap (b.toNat:Int))-1)) else L 0 (IntKind.i64.wrap (IntKind.i64.wrap (8+IntKind.i64.wrap (b.toNat:Int))-1))
def txtR (t:UInt8)(T D:Option PV):Option PV :=
 bif (t.toNat:Int)==4 then bif (t.toNat:Int)==4 then T else D else bif (t.toNat:Int)==5 then T else D
theorem rn_raw (fu:Nat)(l:List UInt8):prun (en lRn) hRn fu false Tryz.f75 [.str l] =
  bif l==[] then nulR else ixS l 0 fun v=>ixS l 0 fun t =>
   bif (t.toNat:Int)==1 then bif decide (1<(l.length:Int)) then ixS l 1 fun d=>finR l (IntKind.i64.wrap (v.toNat:Int)) (IntKind.i64.wrap (d.toNat:Int)) 0 [] 2 else finR l (IntKind.i64.wrap (v.toNat:Int)) 0 0 [] 2
   else bif (t.toNat:Int)==2 then bif (t.toNat:Int)==2 then numR l (IntKind.i64.wrap (v.toNat:Int)) 0 fun c m=>raLoop fu fu (frRa l (IntKind.i64.wrap (v.toNat:Int)) 0 c [] m 0 (IntKind.i64.wrap (m-8)))
    else txtR t (rbLoop fu fu (frRb l (IntKind.i64.wrap (v.toNat:Int)) 0 0 [] (some true) 0 [] 1)) (finR l (IntKind.i64.wrap (v.toNat:Int)) 0 0 [] 1)
   else bif (t.toNat:Int)==3 then numR l (IntKind.i64.wrap (v.toNat:Int)) 0 fun c m=>raLoop fu fu (frRa l (IntKind.i64.wrap (v.toNat:Int)) 0 c [] m 0 (IntKind.i64.wrap (m-8)))
    else txtR t (rbLoop fu fu (frRb l (IntKind.i64.wrap (v.toNat:Int)) 0 0 [] (some true) 0 [] 1)) (finR l (IntKind.i64.wrap (v.toNat:Int)) 0 0 [] 1):=prunN_eq.trans (by kernel_rfl)
theorem ra_step (fu:Nat)(l:List UInt8)(a n c:Int)(s:List UInt8)(m u i:Int)(K:St→Option PV) :
  stepF (en lRn) hRn fu false Tryz.f75 [1,1,1,1,0,1,0,1,1,1,0,1,1,1,1,0,1,0] (frRa l a n c s m u i) (fun st=>pnorm (hRn.loop.lookup 1) st K) =
  bif decide (i<m) then ixS l i fun d=>K (frRa l a n c s m (IntKind.u64.wrap (IntKind.u64.wrap (256 * u)+IntKind.u64.wrap (d.toNat:Int))) (IntKind.i64.wrap (i+1)))
  else finR l a (IntKind.i64.wrap (IntKind.u64.wrap (u+9223372036854775808))) c s m:=by kernel_rfl
def rbEsc (l:List UInt8)(l8:Nat)(i:Int)(v:UInt8)(K1 K2:Option PV):Option PV :=
 roomY l8 1 (ixS l i fun e=>bif (e.toNat:Int)==0 then ixS l (IntKind.i64.wrap (i+1)) fun f=>bif !((f.toNat:Int)==255) then nulR else K1 else K2)
def rbBody (l:List UInt8)(a n c:Int)(l8:Nat)(c8:List PV)(i:Int)(K1 K2:UInt8→Option PV):Option PV :=
 bif decide (IntKind.i64.wrap (i+1)<(l.length:Int)) then ixS l i fun v =>
  bif (v.toNat:Int)==0 then ixS l (IntKind.i64.wrap (i+1)) fun d=>bif !((d.toNat:Int)==1) then ixS l i fun v=>rbEsc l l8 i v (K1 v) (K2 v) else (pbytes c8).bind fun s=>finR l a n c s (IntKind.i64.wrap (i+2))
  else ixS l i fun v=>rbEsc l l8 i v (K1 v) (K2 v)
 else (pbytes c8).bind fun s=>finR l a n c s (IntKind.i64.wrap (i+2))
theorem rb_step (fu:Nat)(l:List UInt8)(a n c:Int)(s:List UInt8)(n8:Option Bool)(l8:Nat)(c8:List PV)(i:Int)(K:St→Option PV) :
  stepF (en lRn) hRn fu false Tryz.f75 [1,1,1,1,0,1,0,1,1,1,1,1,0,1,1,0,0] (frRb l a n c s n8 l8 c8 i) (fun st=>pnorm (hRn.loop.lookup 3) st K) =
  rbBody l a n c l8 c8 i (fun v=>K (frRb l a n c s (n8.map (· && false)) (l8+1) (c8++[.int .u8 (v.toNat:Int)]) (IntKind.i64.wrap (IntKind.i64.wrap (i+1)+1))))
   (fun v=>K (frRb l a n c s (n8.map (· && false)) (l8+1) (c8++[.int .u8 (v.toNat:Int)]) (IntKind.i64.wrap (i+1)))):=by kernel_rfl
theorem untL_eq:∀ (k:Nat) (l acc:List UInt8),l.length≤k→untL l acc=(untext l).map fun p=>(acc++p.1,p.2):=by
 intro k
 induction k with
 |zero=>intro l acc hl;obtain rfl:l=[]:=List.length_eq_zero_iff.1 (by omega);rfl
 |succ k ih =>
  intro l acc hl
  match l,hl with
  |[],_=>rfl
  |[c],_ =>
   unfold untL
   by_cases h:c=0
   ·rw[if_pos h];simp[untext]
   ·rw[if_neg h];simp[untL,untext]
  |c::d::t,hl =>
   simp only[List.length_cons] at hl
   rw[untL,untext]
   by_cases h:c=0
   ·rw[if_pos h,if_pos h]
    by_cases h1:d=255
    ·rw[if_pos h1,if_pos h1,ih t _ (by omega)]
     rcases untext t with _|p<;>simp
    ·rw[if_neg h1,if_neg h1]
     by_cases h2:d=1
     ·rw[if_pos h2,if_pos h2];simp
     ·rw[if_neg h2,if_neg h2];rfl
   ·rw[if_neg h,if_neg h,ih (d::t) _ (by simpa using hl)]
    rcases untext (d::t) with _|p<;>simp
def rnN (l:List UInt8):Nat:=(nextV l).elim 0 fun p=>l.length-p.2.length
def rnV (l:List UInt8):PV:=.tuple [.agg [.int .i64 (nxA (nextV l)).kind,.int .i64 (nxA (nextV l)).n,.int .i64 (nxA (nextV l)).scale,.str (nxA (nextV l)).s],.int .i64 ((rnN l:Nat):Int)]
theorem rnV_none {l:List UInt8}(h:nextV l=none):nulR=some (rnV l):=by unfold rnV rnN;rw[h];rfl
theorem nextV_noneS {l:List UInt8}(h:nextS l=none):nextV l=none:=by unfold nextV;rw[h];rfl
theorem rnV_noneS {l:List UInt8}(h:nextS l=none):nulR=some (rnV l):=rnV_none (nextV_noneS h)
theorem finR_next {l r:List UInt8}{x:Val}(h:nextS l=some (x,r))(hs:x.s.length≤1000000){m:Int}(hm:m=(l.length:Int)-(r.length:Int)):finR l x.kind x.n x.scale x.s m=some (rnV l):=by
 have hlen:=nextS_len h
 unfold finR rgtO oneO
 rw[decide_eq_false (show ¬ (l.length:Int)<m by omega),decide_eq_true hs,right_B]
 simp only[Bool.not_false,cond_true]
 rcases hr:right x with _|_
 ·have:nextV l=none:=by unfold nextV;rw[h];simp[hr]
  simp only[Bool.not_false,Bool.not_true,cond_false]
  exact rnV_none this
 ·have hv:nextV l=some (x,r):=by unfold nextV;rw[h];simp[hr]
  have he:=nextS_inv h hr
  have hle:(enc x).length=m.toNat:=by
   have:=congrArg List.length he
   rw[List.length_append] at this
   omega
  simp only[Bool.not_false,Bool.not_true,cond_true]
  rw[cond_t (by rw[decide_eq_true (by omega),decide_eq_true (by omega)];rfl),List.drop_zero]
  have ht:l.take m.toNat=enc x:=by rw[he,← hle,List.take_left]
  rw[ht,beq_self_eq_true]
  unfold rnV rnN
  rw[hv]
  simp only[Bool.not_true,cond_false,nxA,Option.elim_some]
  rw[show ((l.length-r.length:Nat):Int)=m by omega]
theorem finR_long {l:List UInt8}{a n c:Int}{s:List UInt8}{m:Int}(h:(l.length:Int)<m):finR l a n c s m=nulR:=by
 unfold finR;rw[decide_eq_true h];rfl
theorem ra_loop (fu:Nat)(l:List UInt8)(a n c:Int)(j:Nat)(hj:j+8≤l.length)(hl:l.length≤1000000):∀ (k i q:Nat),i+k=8→k<q →
  raLoop fu q (frRa l a n c [] ((j+8:Nat):Int) (be ((l.drop j).take i):Int) ((j+i:Nat):Int))=finR l a ((be ((l.drop j).take 8):Int)-9223372036854775808) c [] ((j+8:Nat):Int)
 |k,i,0,_,h=>by omega
 |0,i,q+1,hi,hq=>by
  obtain rfl:i=8:=by omega
  unfold raLoop
  have hlt:=be_lt 8 ((l.drop j).take 8) (by rw[List.length_take,List.length_drop];omega)
  have hlt:be ((l.drop j).take 8)<18446744073709551616:=by simpa using hlt
  have hw:IntKind.i64.wrap (IntKind.u64.wrap ((be ((l.drop j).take 8):Int)+9223372036854775808))=(be ((l.drop j).take 8):Int)-9223372036854775808:=by
   rw[wrapU,IntKind.wrap_i64];omega
  rw[loopF_succ,ra_step,cond_f (decide_eq_false (by omega)),hw]
 |k+1,i,q+1,hi,hq=>by
  unfold raLoop
  have hlt:=be_lt i ((l.drop j).take i) (by rw[List.length_take,List.length_drop];omega)
  have hb:be ((l.drop j).take i)≤72057594037927935:=by
   have:=Nat.pow_le_pow_right (n:=256) (by decide) (show i≤7 by omega)
   omega
  have hc:=List.getElem?_eq_getElem (l:=l) (i:=j+i) (by omega)
  have hx:=l[j+i].toNat_lt
  have e:be ((l.drop j).take (i+1))=be ((l.drop j).take i) * 256+(l[j+i]).toNat:=by
   rw[List.take_add_one,List.getElem?_drop,hc,Option.toList_some,be_snoc]
  have ih:=ra_loop fu l a n c j hj hl k (i+1) q (by omega) (by omega)
  unfold raLoop at ih
  rw[e] at ih
  rw[loopF_succ,ra_step,cond_t (decide_eq_true (by omega)),ixS_eq hc,← ih]
  congr 2
  ·rw[wrapU,wrapU,wrapU];omega
  ·rw[wrapI_of (by omega) (by omega)];omega
theorem u8_eqb (t c:UInt8):((t.toNat:Int)==(c.toNat:Int))=decide (t=c):=by
 rw[Bool.eq_iff_iff]
 simp only[beq_iff_eq,decide_eq_true_eq]
 constructor
 ·intro e;apply UInt8.toNat_inj.1;omega
 ·intro e;rw[e]
theorem u8_eq1 (t:UInt8):((t.toNat:Int)==1)=decide (t=1):=u8_eqb t 1
theorem u8_eq2 (t:UInt8):((t.toNat:Int)==2)=decide (t=2):=u8_eqb t 2
theorem u8_eq3 (t:UInt8):((t.toNat:Int)==3)=decide (t=3):=u8_eqb t 3
theorem u8_eq4 (t:UInt8):((t.toNat:Int)==4)=decide (t=4):=u8_eqb t 4
theorem u8_eq5 (t:UInt8):((t.toNat:Int)==5)=decide (t=5):=u8_eqb t 5
theorem u8_eq255 (t:UInt8):((t.toNat:Int)==255)=decide (t=255):=u8_eqb t 255
theorem rb_loop (fu:Nat)(l:List UInt8)(a n c:Int)(hl:l.length≤100000):∀ (k i q:Nat) (n8:Option Bool) (acc:List UInt8),l.length-i≤k→k<q→acc.length≤i→i≤l.length →
  rbLoop fu q (frRb l a n c [] n8 acc.length (bC acc) (i:Int))=match untL (l.drop i) acc with|none=>nulR|some p=>finR l a n c p.1 ((l.length:Int)-(p.2.length:Int))
 |k,i,0,_,_,_,h,_,_=>by omega
 |k, i, q+1,n8,acc,hk,hq,ha,hil=>by
  unfold rbLoop
  rw[loopF_succ,rb_step]
  unfold rbBody rbEsc
  rw[wrapI_of (x:=(i:Int)+1) (by omega) (by omega),wrapI_of (x:=(i:Int)+2) (by omega) (by omega)]
  by_cases h1:i+1<l.length
  ·have hv:=List.getElem?_eq_getElem (l:=l) (i:=i) (by omega)
   have hd:=List.getElem?_eq_getElem (l:=l) (i:=i+1) h1
   have e1:(i:Int)+1=((i+1:Nat):Int):=by omega
   have hroom:acc.length+1≤1000000:=by omega
   rw[cond_t (decide_eq_true (by omega)),e1]
   simp only[ixS_eq hv,ixS_eq hd,roomY_eq hroom,u8_zero,u8_eq1,u8_eq255,pbytes_bC]
   rw[List.drop_eq_getElem_cons (show i<l.length by omega),List.drop_eq_getElem_cons h1]
   have hlen:(l.drop (i+1+1)).length=l.length-(i+2):=by rw[List.length_drop]
   generalize hg:l[i]=v
   generalize hg':l[i+1]=d
   unfold untL
   by_cases h0:v=0
   ·rw[decide_eq_true h0,cond_true,cond_true,if_pos h0]
    dsimp only
    by_cases hd1:d=1
    ·subst hd1
     rw[decide_eq_true rfl,Bool.not_true,cond_false,if_neg (by decide),if_pos rfl]
     simp only[Option.bind_some]
     congr 1
     rw[hlen]
     omega
    ·rw[decide_eq_false hd1,Bool.not_false,cond_true]
     by_cases hd2:d=255
     ·have ih:=rb_loop fu l a n c hl (k-2) (i+2) q (n8.map (· && false)) (acc++[0]) (by omega) (by omega) (by simp;omega) (by omega)
      unfold rbLoop at ih
      rw[List.length_append,← bC_snoc] at ih
      rw[decide_eq_true hd2,Bool.not_true,cond_false,if_pos hd2,h0,wrapI_of (by omega) (by omega),show ((i+1:Nat):Int)+1=((i+2:Nat):Int) by omega]
      exact ih
     ·rw[decide_eq_false hd2,Bool.not_false,cond_true,if_neg hd2,if_neg hd1]
   ·have ih:=rb_loop fu l a n c hl (k-1) (i+1) q (n8.map (· && false)) (acc++[v]) (by omega) (by omega) (by simp;omega) (by omega)
    unfold rbLoop at ih
    rw[List.length_append,← bC_snoc,List.drop_eq_getElem_cons h1,hg'] at ih
    rw[decide_eq_false h0,cond_false,cond_false,if_neg h0]
    exact ih
  ·have hu:untL (l.drop i) acc=none:=by
    rcases hdr:l.drop i with _|⟨v,t⟩
    ·rfl
    ·have:(l.drop i).length=l.length-i:=List.length_drop
     rw[hdr,List.length_cons] at this
     obtain rfl:t=[]:=List.length_eq_zero_iff.1 (by omega)
     unfold untL
     by_cases h0:v=0
     ·rw[if_pos h0]
     ·rw[if_neg h0];rfl
   rw[cond_f (decide_eq_false (by omega)),hu,pbytes_bC]
   exact finR_long (by omega)
theorem untext_short {l s r:List UInt8}(h:untext l=some (s,r)):s.length≤l.length:=by
 have:=untext_len l.length l (Nat.le_refl _) s r h
 omega
theorem rn_any (l : List UInt8) (hl:l.length≤100000):prun (en lRn) hRn (l.length + 20) false Tryz.f75 [.str l]=some (rnV l):=by
  rw [rn_raw]
  match l,hl with
  | [],_=>rfl
  | t :: r, hl =>
    have hlc:(t :: r).length=r.length + 1:=rfl
    have g0:(t :: r)[0]? = some t:=rfl
    have i0:∀ {K:UInt8→Option PV},ixS (t :: r) 0 K=K t:=fun {K}=>ixS_eq (i:=0) g0
    have wt:∀ t:UInt8,IntKind.i64.wrap (t.toNat:Int)=(t.toNat:Int):=fun t=>wrapI_of (by have:=t.toNat_lt;omega) (by have:=t.toNat_lt;omega)
    rw [cond_f (show ((t :: r) == ([]:List UInt8))=false from rfl),i0,i0,u8_eq1,u8_eq2,u8_eq3]
    unfold txtR
    rw [u8_eq4,u8_eq5,wt]
    by_cases h1:t=1
    · subst h1
      rw [decide_eq_true rfl,cond_true]
      match r,hl with
      | [],_=>exact (cond_f (by simp)).trans ((finR_long (by simp)).trans (rnV_noneS rfl))
      | d :: r',_ =>
        have i1:∀ {K:UInt8→Option PV},ixS (1 :: d :: r') 1 K=K d:=fun {K}=>ixS_eq (i:=1) rfl
        rw [cond_t (decide_eq_true (by simp only [List.length_cons];omega)),i1,wt]
        exact finR_next (x:=⟨1,d.toNat,0,[]⟩) (r:=r') (by simp [nextS]) (by simp) (by simp only [List.length_cons];omega)
    · rw [decide_eq_false h1,cond_false]
      by_cases h2:t=2
      · subst h2
        rw [decide_eq_true rfl,cond_true,cond_true]
        unfold numR
        rw [i0,i0,show ((2:UInt8).toNat:Int)=2 from rfl,show IntKind.i64.wrap (IntKind.i64.wrap (8 + IntKind.i64.wrap 2) - 1)=9 by decide]
        by_cases h8:r.length < 8
        · rw [cond_t (decide_eq_true (by omega))]
          exact rnV_noneS (by simp [nextS,h8])
        · rw [cond_f (decide_eq_false (by omega)),cond_f (by decide)]
          have:=ra_loop (((2:UInt8) :: r).length + 20) (2 :: r) 2 0 0 1 (by omega) (by omega) 8 0 (((2:UInt8) :: r).length + 20) (by omega) (by omega)
          refine Eq.trans (Eq.trans ?_ this) ?_
          · rfl
          · exact finR_next (x:=⟨2,(be (r.take 8):Int) - 9223372036854775808,0,[]⟩) (r:=r.drop 8) (by simp [nextS,h8,deTo_be]) (by simp) (by rw [List.length_drop];omega)
      · rw [decide_eq_false h2,cond_false]
        by_cases h3:t=3
        · subst h3
          rw [decide_eq_true rfl,cond_true]
          unfold numR
          rw [i0,i0,show ((3:UInt8).toNat:Int)=3 from rfl,show IntKind.i64.wrap (IntKind.i64.wrap (8 + IntKind.i64.wrap 3) - 1)=10 by decide]
          match r,hl,hlc with
          | [],_,_ =>
            rw [cond_t (by simp)]
            exact rnV_noneS rfl
          | e :: r',hl,hlc =>
            simp only [List.length_cons] at hlc
            by_cases h8:r'.length < 8
            · rw [cond_t (decide_eq_true (by simp only [List.length_cons];omega))]
              exact rnV_noneS (by simp [nextS,h8])
            · have i1:∀ {K:UInt8→Option PV},ixS (3 :: e :: r') 1 K=K e:=fun {K}=>ixS_eq (i:=1) rfl
              rw [cond_f (decide_eq_false (by simp only [List.length_cons];omega)),cond_t (by decide),i1,wt]
              have:=ra_loop (((3:UInt8) :: e :: r').length + 20) (3 :: e :: r') 3 0 e.toNat 2 (by simp only [List.length_cons];omega) (by omega) 8 0 (((3:UInt8) :: e :: r').length + 20) (by omega) (by omega)
              refine Eq.trans (Eq.trans ?_ this) ?_
              · rfl
              · exact finR_next (x:=⟨3,(be (r'.take 8):Int) - 9223372036854775808,e.toNat,[]⟩) (r:=r'.drop 8) (by simp [nextS,h8,deTo_be]) (by simp) (by simp only [List.length_cons,List.length_drop];omega)
        · rw [decide_eq_false h3,cond_false]
          have hT:(t=4∨t=5)→rbLoop ((t :: r).length + 20) ((t :: r).length + 20) (frRb (t :: r) (t.toNat:Int) 0 0 [] (some true) 0 [] 1)=some (rnV (t :: r)):=by
            intro h45
            have:=rb_loop ((t :: r).length + 20) (t :: r) (t.toNat:Int) 0 0 hl (t :: r).length 1 ((t :: r).length + 20) (some true) [] (by omega) (by omega) (by simp) (by simp)
            refine Eq.trans this ?_
            rw [show (t :: r).drop 1=r from rfl,untL_eq r.length r [] (Nat.le_refl _)]
            have ht0:t≠0:=by rcases h45 with rfl | rfl<;>decide
            rcases hu:untext r with _ | ⟨s,r'⟩
            · exact rnV_noneS (by simp [nextS,ht0,h1,h2,h3,h45,hu])
            · have hsl:=untext_short hu
              exact finR_next (x:=⟨t.toNat,0,0,s⟩) (r:=r') (by simp [nextS,ht0,h1,h2,h3,h45,hu]) (by show s.length≤_;omega) rfl
          by_cases h4:t=4
          · rw [decide_eq_true h4,cond_true,cond_true]
            exact hT (.inl h4)
          · rw [decide_eq_false h4,cond_false]
            by_cases h5:t=5
            · rw [decide_eq_true h5,cond_true]
              exact hT (.inr h5)
            · rw [decide_eq_false h5,cond_false]
              by_cases h0:t=0
              · subst h0
                exact finR_next (x:=⟨0,0,0,[]⟩) (r:=r) (by simp [nextS]) (by simp) (by simp only [List.length_cons];omega)
              · have hn:nextS (t :: r)=none:=by simp [nextS,h0,h1,h2,h3,h4,h5]
                unfold finR rgtO
                have hr:right ⟨t.toNat,0,0,[]⟩=false:=by
                  have k0:(t.toNat:Int)≠0:=fun e=>h0 (UInt8.toNat_inj.1 (by simp only [UInt8.reduceToNat];omega))
                  have k1:(t.toNat:Int)≠1:=fun e=>h1 (UInt8.toNat_inj.1 (by simp only [UInt8.reduceToNat];omega))
                  have k2:(t.toNat:Int)≠2:=fun e=>h2 (UInt8.toNat_inj.1 (by simp only [UInt8.reduceToNat];omega))
                  have k3:(t.toNat:Int)≠3:=fun e=>h3 (UInt8.toNat_inj.1 (by simp only [UInt8.reduceToNat];omega))
                  have k4:(t.toNat:Int)≠4:=fun e=>h4 (UInt8.toNat_inj.1 (by simp only [UInt8.reduceToNat];omega))
                  have k5:(t.toNat:Int)≠5:=fun e=>h5 (UInt8.toNat_inj.1 (by simp only [UInt8.reduceToNat];omega))
                  unfold right
                  rw [if_neg k0,if_neg k1,if_neg k2,if_neg k3,if_neg k4,if_neg k5]
                have hB:rightB (t.toNat:Int) 0 0 []=false:=(right_B ⟨t.toNat,0,0,[]⟩).trans hr
                rw [hB,decide_eq_false (show ¬ ((t :: r).length:Int) < 1 by omega)]
                exact rnV_noneS hn
def p_RNext:PFn:=⟨fun xs k=>match xs with|[.str l]=>bif decide (l.length≤100000) then k (rnV l) else none|_=>none,false⟩
theorem ok_RNext:FOK NGk Tabs 75 p_RNext:=by
 refine fok wokk (allOK_cons ok_rightR (allOK_cons ok_One allOK_nil)) (h:=hRn) Tryz.func75 rfl (by decide) ?_ ?_
 ·intro R xs k
  simp only[p_RNext]
  split
  ·exact cond_nat
  ·rfl
 ·intro xs r h
  simp only[p_RNext] at h
  split at h
  ·rename_i l
   rcases hb:decide (l.length≤100000) with _|_<;>rw[hb] at h
   ·cases h
   ·simp only[decide_eq_true_eq] at hb
    exact⟨l.length+20,(rn_any l hb).trans h⟩
  ·cases h
def hRg:Hints:=⟨[],[(0,⟨[(0,false),(4,true)],[]⟩)]⟩
def frRg (l:List UInt8)(n4:Option Bool)(l4:Nat)(c4:List PV):St:=frame 24 [(0,(.str l,0)),(4,(.sl n4 4 l4 c4,30))] []
noncomputable def lRg:List (FuncId×PFn):=[(75,p_RNext)]
noncomputable def rgLoop (fu n:Nat)(st:St):Option PV:=loopF (en lRg) hRg fu false Tryz.f45 [1,1,0,0] 0 n st
def rnO {R:Type}(l:List UInt8)(K:Option R):Option R:=bif decide (l.length≤100000) then K else none
theorem rnO_eq {R:Type}{l:List UInt8}{K:Option R}(h:l.length≤100000):rnO l K=K:=cond_t (decide_eq_true h)
theorem rg_raw (fu:Nat)(l:List UInt8):prun (en lRg) hRg fu false Tryz.f45 [.str l]=rgLoop fu fu (frRg l (some true) 0 []):=prunN_eq.trans (by kernel_rfl)
theorem rg_step (fu:Nat)(l:List UInt8)(n4:Option Bool)(l4:Nat)(c4:List PV)(K:St→Option PV) :
  stepF (en lRg) hRg fu false Tryz.f45 [1,1,0,0] (frRg l n4 l4 c4) (fun st=>pnorm (hRg.loop.lookup 0) st K) =
  bif !(l==[]) then rnO l (bif (((rnN l:Nat):Int)==0) then some (.tuple [.sl (some true) 4 0 [],.bool false]) else
   roomV l4 1 (bif decide (0≤((rnN l:Nat):Int))&&decide (((rnN l:Nat):Int)≤(l.length:Int)) then K (frRg ((l.take l.length).drop ((rnN l:Nat):Int).toNat) (n4.map (· && false)) (l4+1) (c4++[.int .i64 (nxA (nextV l)).kind,.int .i64 (nxA (nextV l)).n,.int .i64 (nxA (nextV l)).scale,.str (nxA (nextV l)).s])) else none))
  else some (.tuple [.sl n4 4 l4 c4,.bool true]):=by kernel_rfl
theorem nextV_inv {l:List UInt8}{x:Val}{r:List UInt8}(h:nextV l=some (x,r)):l=enc x++r:=by
 unfold nextV at h
 obtain⟨p,h1,h2⟩:=Option.bind_eq_some_iff.1 h
 split at h2
 ·rename_i hr
  injection h2 with h2
  subst h2
  exact nextS_inv h1 hr
 ·cases h2
theorem rnN_some {l:List UInt8}{x:Val}{r:List UInt8}(h:nextV l=some (x,r)):rnN l=l.length-r.length∧0<rnN l∧l.drop (rnN l)=r:=by
 have hl:=nextV_len h
 have e:rnN l=l.length-r.length:=by unfold rnN;rw[h];rfl
 refine⟨e,by omega,?_⟩
 have he:=nextV_inv h
 have h1:=congrArg List.length he
 rw[List.length_append] at h1
 rw[e,show l.length-r.length=(enc x).length by omega,he,List.drop_left]
theorem rg_loop (fu:Nat):∀ (k:Nat) (l:List UInt8) (n:Nat) (acc:List Val),l.length≤k→k<n→k≤100000→acc.length+k≤1000000 →
  rgLoop fu n (frRg l (some acc.isEmpty) acc.length (valsC acc))=some (match getV l with|none=>gtV [] false|some vs=>gtV (acc++vs) true)
 |k,l,0,_,_,h,_,_=>by omega
 |k,[],n+1,acc,hl,hn,hk,ha=>by
  unfold rgLoop
  rw[loopF_succ,rg_step,cond_f (by rfl)]
  simp only[getV_nil,List.append_nil]
  rfl
 |0,b::l,n+1,acc,hl,hn,hk,ha=>by simp at hl
 |k+1,b::l,n+1,acc,hl,hn,hk,ha=>by
  unfold rgLoop
  rw[loopF_succ,rg_step,cond_t (by rfl),rnO_eq (by omega),getV_step (by simp)]
  rcases hv:nextV (b::l) with _|⟨x,r⟩
  ·have e:rnN (b::l)=0:=by unfold rnN;rw[hv];rfl
   rw[e];rfl
  ·have hr:=nextV_len hv
   obtain⟨e1,e2,e3⟩:=rnN_some hv
   simp only[nxA,Option.elim_some]
   have e:=valsC_snoc acc x
   unfold V4.cs at e
   rw[cond_f (show (((rnN (b::l):Nat):Int)==0)=false by rw[beq_eq_false_iff_ne];omega),roomV_eq (by omega),cond_t (by rw[decide_eq_true (by omega),decide_eq_true (by omega)];rfl),e,Int.toNat_natCast,List.take_length,e3]
   have ih:=rg_loop fu k r n (acc++[x]) (by simp only[List.length_cons] at hl hr;omega) (by omega) (by omega) (by simp;omega)
   unfold rgLoop at ih
   rw[List.length_append,show (acc++[x]).isEmpty=false by cases acc<;>rfl] at ih
   simp only[Option.map_some,Bool.and_false]
   refine ih.trans ?_
   rcases getV r with _|vs
   ·rfl
   ·simp only[Option.map_some,List.append_assoc,List.singleton_append]
def p_RGet:PFn:=⟨fun xs k=>match xs with|[.str l]=>bif decide (l.length≤100000) then k (gtV ((getV l).getD []) (getV l).isSome) else none|_=>none,false⟩
theorem ok_RGet:FOK NGk Tabs 45 p_RGet:=by
 refine fok wokk (allOK_cons ok_RNext allOK_nil) (h:=hRg) Tryz.func45 rfl (by decide) ?_ ?_
 ·intro R xs k
  simp only[p_RGet]
  split
  ·exact cond_nat
  ·rfl
 ·intro xs r h
  simp only[p_RGet] at h
  split at h
  ·rename_i l
   rcases hb:decide (l.length≤100000) with _|_<;>rw[hb] at h
   ·cases h
   ·simp only[cond_true,Option.some.injEq] at h
    subst h
    simp only[decide_eq_true_eq] at hb
    refine⟨l.length+1,(rg_raw _ l).trans ((rg_loop _ l.length l _ [] (Nat.le_refl _) (by omega) hb (by simp;omega)).trans ?_)⟩
    rcases getV l with _|vs<;>rfl
  ·cases h
end Go.Proofs.YthjmjoioagocdaaGreatDoor
end
section
namespace Go.Proofs.YthjmjoioagocdaaGreatDoor
open Go.RowKit
def dg:Nat→Nat→List Nat
 |0,_=>[]
 |k+1,n=>(n%10)::dg k (n/10)
def dlenF:Nat→Nat→Nat
 |0,_=>0
 |f+1,n=>if n=0 then 0 else dlenF f (n/10)+1
def dlen (n:Nat):Nat:=dlenF n n
def dgs (n:Nat):List Nat:=dg (dlen n) n
def cellD (d:Nat):PV:=.int .i64 (d:Int)
def cellsD (l:List Nat):List PV:=l.map cellD
def cellsN (n:Nat):List PV:=cellsD (dgs n)
def big (n:Nat):PV:=.sl (some (n==0)) 1 (dlen n) (cellsN n)
def inI (x:Int):Bool:=decide (-9223372036854775808≤x)&&decide (x≤9223372036854775807)
theorem inI_iff {x:Int}:inI x=true ↔ -9223372036854775808≤x∧x≤9223372036854775807:=by
 simp only[inI,Bool.and_eq_true,decide_eq_true_eq]
def room {R:Type}(l m:Nat)(x:Option R):Option R:=bif decide (l+m≤9223372036854775807)&&decide ((l+m) * 8≤140737488355328) then x else none
def p_Of:PFn:=⟨fun xs k=>match xs with|[.int .i64 n]=>bif inI n then k (big n.natAbs) else none|_=>none,false⟩
end Go.Proofs.YthjmjoioagocdaaGreatDoor
end
