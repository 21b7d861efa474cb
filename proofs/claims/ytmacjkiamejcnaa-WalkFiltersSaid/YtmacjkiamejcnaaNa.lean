/-
  pairs: a tree of keys and its pairs.
-/
import Derived.Test.YtmacjkiamejcnaaWd
set_option linter.unusedVariables false
set_option linter.unusedSimpArgs false
set_option maxRecDepth 100000
namespace Go.Proofs.Ytmacjkiamejcnaa
open Go.RowKit
noncomputable def lPa : List (FuncId × PFn) := [(42, p_rput)]
noncomputable def lhPa : List (FuncId × HFn) := [(36, hNew), (37, hTPut gPuA)]
noncomputable def enPa : Env := enTx lPa lhPa
noncomputable def fPa : Func := Try.f11
def hPa : Hints := ⟨[(0, ⟨[(4, false), (5, false)], [10]⟩)], [(0, ⟨[(4, false), (5, false), (11, false), (12, false), (13, false)], [10]⟩)]⟩
def paP : List Nat := [1, 1, 1, 0, 1, 0]
section
variable {R : Type} (kk : List (List PV) → PV → Option R) (fu : Nat)
noncomputable def paKr (st : St) : Option R := pfinH enPa 0 fPa st fun bs _ v => kk bs v
noncomputable def paLoop (n : Nat) (st : St) : Option R := loopK enPa hPa fu (paKr kk) fPa (fun _ => none) paP 0 n st
noncomputable def paTail (st : St) : Option R := pcodeN enPa hPa fu (paKr kk) (fun p cur st => loopK enPa hPa fu (paKr kk) fPa (fun _ => none) p cur fu st) (subC [1, 1, 1, 1] (fPa.body.getD .skip)) [1, 1, 1, 1] 0 st (paKr kk) []
def frPa (x : PV) (lf : Option Bool) (ln : Nat) (lc : List PV) (nl : Option Bool) (n : Nat) (c : List PV) (L i : Int) : St := frame 40 [(4, (.ptr 10 0, 0)), (5, (.sl lf 2 ln lc, 0)), (11, (.sl nl 1 n c, 0)), (12, (.int .i64 L, 0)), (13, (.int .i64 i, 0))] [(10, [(x, 0)])]
def frPaT (x : PV) (lf : Option Bool) (ln : Nat) (lc : List PV) : St := frame 40 [(4, (.ptr 10 0, 0)), (5, (.sl lf 2 ln lc, 0))] [(10, [(x, 0)])]
theorem pa_raw (nl : Option Bool) (n : Nat) (c : List PV) : prunH enPa hPa fu fPa [] [.sl nl 1 n c] kk = paLoop kk fu fu (frPa .nilptr (some true) 0 [] nl n c (n : Int) 0) := prunHN_eq.trans (by kernel_rfl)
def paR (n : Nat) (c : List PV) (lf : Option Bool) (ln : Nat) (lc : List PV) (L i : Int) (x : PV) (T : Option R) (K : PV → Option Bool → Nat → List PV → Int → Option R) : Option R :=
  bif decide (i < L) then strsAt n c i fun s => bif bif decide (60 ≤ i) then true else decide (50 < ((s.length : Nat) : Int)) then T else
    (hTPut gPuA).F [[x]] [.ptr 0 0, .str s, .int .i64 i] fun bs _ => on1 bs fun x' => p_rput.F [.sl lf 2 ln lc, .str s, .int .i64 i] fun w => onP2 w fun lf ln lc _ => K x' lf ln lc (IntKind.i64.wrap (i + 1))
  else T
theorem pa_step {x : PV} (hx : IsR x) (lf : Option Bool) (ln : Nat) (lc : List PV) (nl : Option Bool) (n : Nat) (c : List PV) (L i : Int) (K : St → Option R) :
    stepK enPa hPa fu (paKr kk) fPa paP (fun _ => none) (frPa x lf ln lc nl n c L i) (fun st => pnorm (hPa.loop.lookup 0) st K) = paR n c lf ln lc L i x (paTail kk fu (frPaT x lf ln lc)) (fun x lf ln lc i => K (frPa x lf ln lc nl n c L i)) := by
  have g : ∀ kr KN nm, stepG enPa hPa fu kr fPa paP nm 0 [(0, KN)] (frPa x lf ln lc nl n c L i) (fun st => pnorm (hPa.loop.lookup 0) st K) = paR n c lf ln lc L i x (KN (frPaT x lf ln lc)) (fun x lf ln lc i => K (frPa x lf ln lc nl n c L i)) := by
    intro kr KN nm
    rcases hx with rfl | ⟨cx, rfl⟩ <;> kernel_rfl
  exact (stepK_eq (by decide)).trans (g (paKr kk) (paTail kk fu) (fun p cur st => loopK enPa hPa fu (paKr kk) fPa (fun st => pnorm (hPa.loop.lookup 0) st K) p cur fu st))
theorem pa_tail {x : PV} (hx : IsR x) (lf : Option Bool) (ln : Nat) (lc : List PV) : paTail kk fu (frPaT x lf ln lc) = kk [[x]] (.tupp [.ptr 0 0, .sl lf 2 ln lc]) := by
  rcases hx with rfl | ⟨cx, rfl⟩ <;> kernel_rfl
end
/-! ## what it computes -/
def putX (x : PV) (s : Ky) (v : Int) : PV := ((hTPut gPuA).F (R := PV) [[x]] [.ptr 0 0, .str s, .int .i64 v] fun bs _ => on1 bs some).getD .nilptr
theorem putX_law {x : PV} {l : List (Ky × PV)} (h : RootIs x l) (hl : l.length ≤ 40000) (s : Ky) (v : Int) :
    RootIs (putX x s v) (insK s (.int .i64 v) l) ∧ ∀ {R : Type} (K : List (List PV) → PV → Option R), (hTPut gPuA).F [[x]] [.ptr 0 0, .str s, .int .i64 v] K = K [[putX x s v]] (.bool (!hasK s l)) := by
  obtain ⟨x', h1, h2⟩ := put_law h hl s v
  have e : putX x s v = x' := by
    unfold putX
    rw [h2]
    rfl
  rw [e]
  exact ⟨h1, h2⟩
def prGo : List Ky → Nat → PV → List (Ky × PV) → PV × List (Ky × PV)
  | [], _, x, l => (x, l)
  | k :: ks, i, x, l => if 60 ≤ i ∨ 50 < k.length then (x, l) else prGo ks (i + 1) (putX x k i) (insK k (.int .i64 i) l)
def sdec : List PV → Option (List Ky)
  | [] => some []
  | .str s :: c => (sdec c).bind fun l => some (s :: l)
  | _ => none
theorem sdec_inv : ∀ {c : List PV} {ks : List Ky}, sdec c = some ks → c = ks.map PV.str
  | [], ks, h => by
    simp [sdec] at h
    subst h
    rfl
  | x :: c, ks, h => by
    cases x <;> simp only [sdec, reduceCtorEq] at h
    obtain ⟨l, h1, h2⟩ := bind_some_inv h
    injection h2 with h2
    subst h2
    rw [List.map_cons, ← sdec_inv h1]
theorem sdec_map : ∀ (ks : List Ky), sdec (ks.map PV.str) = some ks
  | [] => rfl
  | k :: ks => by rw [List.map_cons]; simp only [sdec]; rw [sdec_map ks]; rfl
def gStrs (n : Nat) (c : List PV) : Option (List Ky) := (sdec c).bind fun ks => if ks.length = n then some ks else none
theorem gStrs_inv {n : Nat} {c : List PV} {ks : List Ky} (h : gStrs n c = some ks) : c = ks.map PV.str ∧ ks.length = n := by
  unfold gStrs at h
  obtain ⟨l, h1, h2⟩ := bind_some_inv h
  obtain ⟨h3, h2⟩ := ite_inv h2
  injection h2 with h2
  subst h2
  exact ⟨sdec_inv h1, h3⟩
theorem gStrs_map (ks : List Ky) : gStrs ks.length (ks.map PV.str) = some ks := by
  unfold gStrs
  rw [sdec_map, Option.bind_some, if_pos rfl]
theorem strsM_eq {S : Type} {ks : List Ky} {i : Nat} {u : Ky} (h : ks[i]? = some u) (k : Ky → Option S) : strsAt ks.length (ks.map PV.str) (i : Int) k = k u := by
  have hi := (List.getElem?_eq_some_iff.1 h).1
  unfold strsAt
  rw [cond_t (by rw [decide_eq_true (by omega), decide_eq_true (by omega)]; rfl), Int.toNat_natCast, Nat.mul_one, List.head?_take, if_neg (by decide), List.head?_drop, List.getElem?_map, h]
  rfl
theorem prGo_root : ∀ (ks : List Ky) (i : Nat) (x : PV) (l : List (Ky × PV)), i ≤ 60 → RootIs x l → l.length ≤ i → RootIs (prGo ks i x l).1 (prGo ks i x l).2 ∧ (prGo ks i x l).2.length ≤ 60
  | [], i, x, l, hi, hx, hl => ⟨hx, by show l.length ≤ 60; omega⟩
  | k :: ks, i, x, l, hi, hx, hl => by
    unfold prGo
    by_cases h : 60 ≤ i ∨ 50 < k.length
    · rw [if_pos h]; exact ⟨hx, by show l.length ≤ 60; omega⟩
    · rw [if_neg h]
      have la : (insK k (.int .i64 (i : Int)) l).length ≤ i + 1 := by rw [ins_len hx.srt]; split <;> omega
      exact prGo_root ks (i + 1) _ _ (by omega) (putX_law hx (by omega) k i).1 la
theorem pa_loop {R : Type} (kk : List (List PV) → PV → Option R) (fu : Nat) (ks : List Ky) (nl : Option Bool) : ∀ (m i n : Nat) (x : PV) (l : List (Ky × PV)), i + m = ks.length → m < n → i ≤ 60 → RootIs x l → l.length ≤ i →
    paLoop kk fu n (frPa x (some l.isEmpty) l.length (pcs l) nl ks.length (ks.map PV.str) (ks.length : Int) (i : Int)) = kk [[(prGo (ks.drop i) i x l).1]] (.tupp [.ptr 0 0, pSl (prGo (ks.drop i) i x l).2])
  | m, i, 0, x, l, hi, hn, h60, hx, hl => by omega
  | 0, i, n + 1, x, l, hi, hn, h60, hx, hl => by
    unfold paLoop
    rw [loopK_succ, pa_step kk fu hx.isR]
    unfold paR
    rw [cond_f (decide_eq_false (by omega)), pa_tail kk fu hx.isR, List.drop_eq_nil_of_le (by omega)]
    rfl
  | m + 1, i, n + 1, x, l, hi, hn, h60, hx, hl => by
    have hp : ks[i]? = some ks[i] := List.getElem?_eq_getElem (by omega)
    generalize ks[i] = k at hp
    have ih := fun x l => pa_loop kk fu ks nl m (i + 1) n x l (by omega) (by omega)
    unfold paLoop at ih ⊢
    rw [loopK_succ, pa_step kk fu hx.isR, drop_cons_some hp]
    unfold paR prGo
    rw [cond_t (decide_eq_true (by omega)), strsM_eq hp]
    by_cases h1 : 60 ≤ i
    · rw [if_pos (.inl h1), show decide ((60 : Int) ≤ (i : Int)) = true from decide_eq_true (by omega), cond_true, cond_true, pa_tail kk fu hx.isR]
      rfl
    · rw [show decide ((60 : Int) ≤ (i : Int)) = false from decide_eq_false (by omega), cond_false]
      by_cases h2 : 50 < k.length
      · rw [if_pos (.inr h2), cond_t (decide_eq_true (by omega)), pa_tail kk fu hx.isR]
        rfl
      · obtain ⟨h3, h4⟩ := putX_law hx (by omega) k i
        have la : (insK k (.int .i64 (i : Int)) l).length ≤ i + 1 := by rw [ins_len hx.srt]; split <;> omega
        rw [if_neg (by omega), cond_f (decide_eq_false (by omega)), h4]
        simp only [on1]
        rw [rput_law hx (by omega)]
        simp only [onP2, pSl]
        rw [wrapI_of (by omega) (by omega)]
        exact ih _ _ (by omega) h3 la
def rootK {S : Type} (x : PV) (k : PV → Option S) : Option S := match x with | .nilptr => k .nilptr | .eptr cs => k (.eptr cs) | _ => none
theorem rootK_eq {S : Type} {x : PV} (hx : IsR x) (k : PV → Option S) : rootK x k = k x := by rcases hx with rfl | ⟨cs, rfl⟩ <;> rfl
theorem rootK_nat {S T : Type} (x : PV) (f : PV → Option S) (k : S → Option T) : rootK x (fun x => (f x).bind k) = (rootK x f).bind k := by cases x <;> rfl
def hPairs : HFn := ⟨fun bs xs k => match bs, xs with
  | [], [.sl nl 1 n c] => (gStrs n c).bind fun ks => rootK (prGo ks 0 .nilptr []).1 fun x => k [[x]] (.tupp [.ptr 0 0, pSl (prGo ks 0 .nilptr []).2])
  | _, _ => none⟩
theorem ok_pairs : HOK NGt Wt 11 hPairs := by
  refine hokX (l := lPa) (lh := lhPa) (allOK_cons ok_rput allOK_nil) (allH_cons ok_new (allH_cons ok_tput allH_nil)) (h := hPa) Try.func11 rfl (by decide) ?_ ?_
  · intro R bs xs k
    simp only [hPairs]
    split
    · rw [obind_assoc]; congr 1; funext ks; rw [← rootK_nat]; rfl
    · rfl
  · intro bs xs r h
    simp only [hPairs] at h
    split at h
    · rename_i nl n c
      obtain ⟨ks, h1, h2⟩ := bind_some_inv h
      obtain ⟨rfl, rfl⟩ := gStrs_inv h1
      obtain ⟨hr, _⟩ := prGo_root ks 0 .nilptr [] (by omega) (.inl ⟨rfl, rfl⟩) (by simp)
      rw [rootK_eq hr.isR] at h2
      refine ⟨ks.length + 1, (pa_raw _ _ nl _ _).trans ?_⟩
      have := pa_loop (R := List (List PV) × PV) (fun b v => some (b, v)) (ks.length + 1) ks nl ks.length 0 (ks.length + 1) .nilptr [] (by omega) (by omega) (by omega) (.inl ⟨rfl, rfl⟩) (by simp)
      rw [List.drop_zero] at this
      exact this.trans h2
    · cases h
end Go.Proofs.Ytmacjkiamejcnaa
