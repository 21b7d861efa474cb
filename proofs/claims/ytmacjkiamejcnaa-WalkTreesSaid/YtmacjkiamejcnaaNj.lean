/-
  WalkTrees: its run, and what it computes.
-/
import Derived.Test.YtmacjkiamejcnaaNg
import Derived.Test.YtmacjkiamejcnaaNi
set_option linter.unusedVariables false
set_option linter.unusedSimpArgs false
set_option maxRecDepth 100000
namespace Go.Proofs.Ytmacjkiamejcnaa
open Go.RowKit
noncomputable def lWt : List (FuncId × PFn) := [(10, p_first9), (15, p_rbtw), (17, p_rpre), (12, p_same)]
noncomputable def lhWt : List (FuncId × HFn) := [(11, hPairs), (14, hE0 Try.f14), (16, hE0 Try.f16), (13, hList)]
noncomputable def enWt : Env := enTx lWt lhWt
theorem ok_enWt : EnvOK enWt NGt Wt := env_okR (env_okA wokt (allOK_cons ok_first9 (allOK_cons ok_rbtw (allOK_cons ok_rpre (allOK_cons ok_same allOK_nil)))) (allH_cons ok_pairs (allH_cons (hE0_ok Try.func14 rfl (by decide)) (allH_cons (hE0_ok Try.func16 rfl (by decide)) (allH_cons ok_list allH_nil)))) allI_nil allN_nil allC_nil) _
noncomputable def fWt : Func := Try.f3
noncomputable def wtC : Code := fWt.body.getD .skip
def mxL (f t : Ky) : Int := if ((t.length : Nat) : Int) > ((f.length : Nat) : Int) then ((t.length : Nat) : Int) else ((f.length : Nat) : Int)
def frWt (s1 : PV) (f t : Ky) (x l : PV) : St := ⟨(List.range 48).map fun i => (([(0, (s1, 0)), (1, (.str f, 0)), (2, (.str t, 0)), (6, (.bool false, 0)), (9, (.bool true, 0)), (10, (.bool false, 0)), (11, (.str f, 0)), (12, (.int .i64 f.length, 0)), (13, (.str t, 0)), (14, (.int .i64 t.length, 0)), (15, (.int .i64 (mxL f t), 0)), (16, (.bool (decide (50 < mxL f t)), 0)),
  (18, (s1, 0)), (19, (.tupp [.ptr 19 0, l], 0)), (17, (.tupp [.ptr 19 0, l], 0)), (20, (.ptr 19 0, 0)), (21, (l, 0)), (7, (.ptr 19 0, 0)), (8, (l, 0))] : List (Nat × TV)).lookup i).getD (.tuple [], 0), (List.range 48).map fun i => ([(19, [(x, 0)])] : List (Nat × List TV)).lookup i, .nil⟩
theorem wt_head (fu : Nat) (nm : List Nat → Nat → St → Option PV) (KM : St → Option PV) (na : Option Bool) (la : Nat) (ca : List PV) (f t : Ky) :
    pcodeU enWt h0 fu (pfin enWt false fWt) nm KM [1, 1, 1, 1] wtC [] 0 (st0 fWt.ntmps [.sl na 1 la ca, .str f, .str t]) (pfin enWt false fWt) [] =
      bif decide (50 < mxL f t) then some (.bool true) else (gStrs la ca).bind fun ks => rootK (prGo ks 0 .nilptr []).1 fun x => KM (frWt (.sl na 1 la ca) f t x (pSl (prGo ks 0 .nilptr []).2)) := by kernel_rfl
noncomputable def wtRest (fu : Nat) : St → Option PV := restAt enWt h0 fu (pfin enWt false fWt) (fun p cur st => loopF enWt h0 fu false fWt p cur fu st) [1, 1, 1, 1] wtC [] 0 (pfin enWt false fWt) []
theorem wt_rest (fu : Nat) {x : PV} (hx : IsR x) (s1 : PV) (f t : Ky) (lf : Option Bool) (ln : Nat) (lc : List PV) :
    wtRest fu (frWt s1 f t x (.sl lf 2 ln lc)) =
      hList.F [[.ptr 3 0], [.str f], [.str t], [x]] [.clo 56 [.ptr 0 0, .ptr 1 0, .ptr 2 0]] fun _ v => p_rbtw.F [.sl lf 2 ln lc, .str f, .str t] fun w => p_same.F [v, w] fun u => onB u fun b1 =>
        bif b1 then hList.F [[.ptr 2 0], [.str f], [x]] [.clo 57 [.ptr 0 0, .ptr 1 0]] fun _ v => p_rpre.F [.sl lf 2 ln lc, .str f] fun w => p_same.F [v, w] fun u => onB u fun b2 =>
          bif b2 then hList.F [[.nilptr], [.str []], [.str []]] [.clo 56 [.ptr 0 0, .ptr 1 0, .ptr 2 0]] fun _ v => onL v fun n => some (.bool ((n : Int) == 0)) else some (.bool false)
        else some (.bool false) := by
  rcases hx with rfl | ⟨cx, rfl⟩ <;> kernel_rfl
/-! ## the first ones of a list in order are those that pass -/
theorem takeWhile_filter {B : Ky × PV → Bool} : ∀ {m : List (Ky × PV)}, Srt m → (∀ p ∈ m, ∀ q ∈ m, Op.bytesLess p.1 q.1 = true → B q = true → B p = true) → m.takeWhile B = m.filter B
  | [], _, _ => rfl
  | p :: m, h, hB => by
    have h2 := List.pairwise_cons.1 h
    rw [List.takeWhile_cons, List.filter_cons]
    cases hp : B p with
    | true =>
      rw [if_pos rfl, if_pos rfl, takeWhile_filter h2.2 fun a ha b hb => hB a (List.mem_cons_of_mem _ ha) b (List.mem_cons_of_mem _ hb)]
    | false =>
      rw [if_neg (by simp), if_neg (by simp)]
      refine (List.filter_eq_nil_iff.2 fun q hq hBq => ?_).symm
      have := hB p List.mem_cons_self q (List.mem_cons_of_mem _ hq) (h2.1 q hq) hBq
      rw [hp] at this
      cases this
theorem from_srt {l : List (Ky × PV)} (h : Srt l) (f : Ky) : Srt (fromK f l) := List.Pairwise.filter _ h
theorem btw_eq {l : List (Ky × PV)} (h : Srt l) (f t : Ky) : (fromK f l).takeWhile (btT t) = l.filter fun p => btw f t p.1 := by
  rw [takeWhile_filter (from_srt h f)]
  · unfold fromK
    rw [List.filter_filter]
    congr 1
    funext p
    unfold btT btw
    rcases Op.bytesLess p.1 f with _ | _
    · cases ht : (t == []) with
      | true => simp [bne, ht]
      | false => simp [bne, ht]
    · simp
  · intro p _ q _ hpq hq
    unfold btT at hq ⊢
    cases ht : (t != []) with
    | false => rfl
    | true =>
      rw [ht, cond_true, Bool.not_not] at hq
      rw [cond_true, Bool.not_not]
      exact kl_trans hpq hq
def preR : Ky → Ky → Bool
  | [], _ => true
  | c :: q, d :: s => c == d && preR q s
  | _ :: _, [] => false
theorem preB_eq : ∀ (q s : Ky), preB q s = preR q s
  | [], s => by simp [preB, preR]
  | c :: q, [] => by
    unfold preB
    rw [cond_f (decide_eq_false (by simp))]
    rfl
  | c :: q, d :: s => by
    have ih := preB_eq q s
    unfold preB at ih ⊢
    simp only [preR]
    rw [← ih]
    by_cases hl : q.length ≤ s.length
    · rw [cond_t (decide_eq_true (by simp; omega)), cond_t (decide_eq_true (by omega))]
      simp only [List.length_cons, List.take_succ_cons]
      by_cases hcd : c = d
      · subst hcd; simp
      · rw [show (c == d) = false from beq_eq_false_iff_ne.2 hcd, Bool.false_and]
        exact beq_eq_false_iff_ne.2 (by intro e; injection e with e _; exact hcd e.symm)
    · rw [cond_f (decide_eq_false (by simp; omega)), cond_f (decide_eq_false (by omega)), Bool.and_false]
theorem preR_ge : ∀ (q s : Ky), preR q s = true → Op.bytesLess s q = false
  | [], s, _ => by cases s <;> rfl
  | c :: q, [], h => by simp [preR] at h
  | c :: q, d :: s, h => by
    simp only [preR, Bool.and_eq_true, beq_iff_eq] at h
    obtain ⟨rfl, h⟩ := h
    simp [Op.bytesLess, preR_ge q s h, UInt8.lt_irrefl]
theorem preR_mid : ∀ (q k k' : Ky), Op.bytesLess k q = false → Op.bytesLess k k' = true → preR q k' = true → preR q k = true
  | [], _, _, _, _, _ => rfl
  | c :: q, k, [], _, _, h => by simp [preR] at h
  | c :: q, [], d :: k', h, _, _ => by simp [Op.bytesLess] at h
  | c :: q, e :: k, d :: k', h1, h2, h3 => by
    simp only [preR, Bool.and_eq_true, beq_iff_eq] at h3 ⊢
    obtain ⟨rfl, h3⟩ := h3
    simp only [Op.bytesLess, Bool.or_eq_true, Bool.and_eq_true, decide_eq_true_eq, beq_iff_eq] at h2
    simp only [Op.bytesLess, Bool.or_eq_false_iff, Bool.and_eq_false_iff, decide_eq_false_iff_not, beq_eq_false_iff_ne] at h1
    rcases h2 with h2 | ⟨rfl, h2⟩
    · exact absurd h2 h1.1
    · exact ⟨rfl, preR_mid q k k' (h1.2.resolve_left fun x => x rfl) h2 h3⟩
theorem pre_eq {l : List (Ky × PV)} (h : Srt l) (f : Ky) : (fromK f l).takeWhile (fun p => preB f p.1) = l.filter fun p => preB f p.1 := by
  rw [takeWhile_filter (from_srt h f)]
  · unfold fromK
    rw [List.filter_filter]
    congr 1
    funext p
    cases hp : preB f p.1 with
    | false => rfl
    | true =>
      rw [preB_eq] at hp
      rw [preR_ge f p.1 hp]
      rfl
  · intro p hp q _ hpq hq
    have h1 := (List.mem_filter.1 hp).2
    simp only [Bool.not_eq_true'] at h1
    rw [preB_eq] at hq ⊢
    exact preR_mid f p.1 q.1 h1 hpq hq
theorem wt_true (ks : List Ky) (na : Option Bool) (f t : Ky) : prun enWt h0 0 false fWt [.sl na 1 ks.length (ks.map PV.str), .str f, .str t] = some (.bool true) := by
  refine (prun_U (c := wtC) rfl [1, 1, 1, 1]).trans ?_
  refine (wt_head 0 _ _ na _ _ f t).trans ?_
  rcases decide (50 < mxL f t) with _ | _
  rotate_left
  · rfl
  rw [cond_false]
  obtain ⟨hx, hl⟩ := prGo_root ks 0 .nilptr [] (by omega) (.inl ⟨rfl, rfl⟩) (by simp)
  rw [gStrs_map, Option.bind_some, rootK_eq hx.isR]
  generalize (prGo ks 0 .nilptr []).1 = x at hx ⊢
  generalize (prGo ks 0 .nilptr []).2 = l at hx hl ⊢
  refine (wt_rest 0 hx.isR _ f t _ _ _).trans ?_
  have hf := from_len f l
  have e1 : ∀ {R : Type} (K : List (List PV) → PV → Option R), hList.F [[.ptr 3 0], [.str f], [.str t], [x]] [.clo 56 [.ptr 0 0, .ptr 1 0, .ptr 2 0]] K = K [[.ptr 3 0], [.str f], [.str t], [x]] (pSl (l.filter fun p => btw f t p.1)) := fun K => by
    simp only [hList]
    rw [cond_t (by rfl), gRf_of hx (by omega), Option.bind_some, cond_t (decide_eq_true (by omega)), btw_eq hx.srt]
  have e2 : ∀ {R : Type} (K : List (List PV) → PV → Option R), hList.F [[.ptr 2 0], [.str f], [x]] [.clo 57 [.ptr 0 0, .ptr 1 0]] K = K [[.ptr 2 0], [.str f], [x]] (pSl (l.filter fun p => preB f p.1)) := fun K => by
    simp only [hList]
    rw [cond_t (by rfl), gRf_of hx (by omega), Option.bind_some, cond_t (decide_eq_true (by omega)), pre_eq hx.srt]
  have e3 : ∀ {R : Type} (K : List (List PV) → PV → Option R), hList.F [[.nilptr], [.str []], [.str []]] [.clo 56 [.ptr 0 0, .ptr 1 0, .ptr 2 0]] K = K [[.nilptr], [.str []], [.str []]] nil2 := fun K => rfl
  have g1 : ∀ {R : Type} (K : PV → Option R), p_rbtw.F [.sl (some l.isEmpty) 2 l.length (pcs l), .str f, .str t] K = K (pSl (l.filter fun p => btw f t p.1)) := fun K => by
    simp only [p_rbtw]
    rw [gP_of (by omega) hx.vok, Option.bind_some]
  have g2 : ∀ {R : Type} (K : PV → Option R), p_rpre.F [.sl (some l.isEmpty) 2 l.length (pcs l), .str f] K = K (pSl (l.filter fun p => preB f p.1)) := fun K => by
    simp only [p_rpre]
    rw [gP_of (by omega) hx.vok, Option.bind_some]
  have b1 : (l.filter fun p => btw f t p.1).length ≤ l.length := List.length_filter_le _ _
  have b2 : (l.filter fun p => preB f p.1).length ≤ l.length := List.length_filter_le _ _
  rw [e1, g1]
  simp only [pSl]
  rw [same_law (by omega) (fun p hp => hx.vok p (List.mem_filter.1 hp).1)]
  simp only [onB]
  rw [cond_true, e2, g2]
  simp only [pSl]
  rw [same_law (by omega) (fun p hp => hx.vok p (List.mem_filter.1 hp).1)]
  simp only
  rw [cond_true, e3]
  rfl
end Go.Proofs.Ytmacjkiamejcnaa
