/-
  list of a walk, Between and Prefix of the document: contracts.
-/
import Derived.Test.YtmacjkiamejcnaaNh
set_option linter.unusedVariables false
set_option linter.unusedSimpArgs false
set_option maxRecDepth 100000
namespace Go.Proofs.Ytmacjkiamejcnaa
open Go.RowKit
def gRf (x : PV) (s : Ky) : Option (List (Ky × PV)) := match x with | .nilptr => some [] | .eptr cs => gFoA cs s | _ => none
theorem gRf_of {x : PV} {l : List (Ky × PV)} (h : RootIs x l) (hl : l.length ≤ 50000) (s : Ky) : gRf x s = some (fromK s l) := by
  rcases h with ⟨rfl, rfl⟩ | ⟨d, t, rfl, h1, h2, rfl, hv⟩
  · rfl
  · obtain ⟨cs, e⟩ := enc_ptr d t
    have hg := gdP_root h1 h2 hl
    have hdep := gdP_dep hg
    rw [e]
    show gFoA cs s = _
    unfold gFoA
    rw [← e, hdep]
    unfold gFo
    rw [← e, dec_enc hv, Option.bind_some, hg, cond_true]
structure RfOK (x : PV) (s : Ky) (l : List (Ky × PV)) : Prop where
  isR : IsR x
  vok : ∀ p ∈ l, Go.Proofs.Ytmacjkiamejcnaa.vok p.2 = true
  walk : ∀ {R : Type} (o : Out) (y : YFn) (k : List (List PV) → Out → PV → Option R), (iWalk gFoA).F [[.ptr 2 0], [.str s], [x]] o [.yld, .ptr 0 0, .ptr 1 0] y k = walkY y l [[.ptr 2 0], [.str s], [x]] o fun bs o b => k bs o (.tuple [])
theorem gRf_ok {x : PV} {s : Ky} {l : List (Ky × PV)} (h : gRf x s = some l) : RfOK x s l := by
  unfold gRf at h
  split at h
  · injection h with h
    subst h
    exact ⟨.inl rfl, (fun p hp => by cases hp), fun o y k => rfl⟩
  · rename_i cs
    refine ⟨.inr ⟨cs, rfl⟩, gFoA_vok h, fun o y k => ?_⟩
    rw [iWalk_ptr]
    unfold callW
    rw [shp_of (.inr ⟨cs, rfl⟩), cond_true, h, Option.bind_some]
  · cases h
/-- goes on: ahead of the end -/
def btT (t : Ky) (p : Ky × PV) : Bool := !(bif t != [] then !Op.bytesLess p.1 t else false)
section
variable {R : Type} (kk : List (List PV) → PV → Option R)
theorem bt_walk (f t : Ky) {x : PV} {l : List (Ky × PV)} (hx : RfOK x f l) : ∀ (L out : List (Ky × PV)), (∀ p ∈ L, vok p.2 = true) → out.length + L.length ≤ 1000 →
    walkY (btY gFoA f) L [[.ptr 2 0], [.str f], [x]] (.fr (btBx f t x) none (.fr (liBx f t x (pSl out)) none .nil)) (fun bs o _ => rangeEnd 26 [32, 30, 29] (btρ f) (jumpK 0 (btKr gFoA kk) (btKr gFoA kk)) bs o) = kk [[.ptr 3 0], [.str f], [.str t], [x]] (pSl (out ++ L.takeWhile (btT t)))
  | [], out, hv, hl => by
    rw [List.takeWhile_nil, List.append_nil]
    exact bt_end gFoA kk f t hx.isR _ _ _
  | p :: L, out, hv, hl => by
    have hvp := hv p List.mem_cons_self
    have hst := bt_step (R := List (List PV) × Out × Bool) gFoA f t hx.isR (some out.isEmpty) out.length (pcs out) p.1 (valP p.2) (fun b o v => some (b, o, v))
    rw [apR_t (by simp at hl; omega), cond_f (b := decide _) (decide_eq_false (by simp at hl; omega)), valP_eq hvp, flag_app (p := p), pcs_one, ← pcs_append, show out.length + 1 = (out ++ [p]).length by simp] at hst
    simp only [walkY]
    unfold yF
    refine (congrArg (fun o => Option.bind o _) hst).trans ?_
    rw [List.takeWhile_cons]
    have hb : btT t p = !(bif t != [] then !Op.bytesLess p.1 t else false) := rfl
    rw [hb]
    cases hq : !(bif t != [] then !Op.bytesLess p.1 t else false) with
    | true =>
      rw [cond_true, Option.bind_some, if_pos rfl]
      show (bif shpB [[.ptr 2 0], [.str f], [x]] then (bif true then _ else _) else none) = _
      rw [shp_of hx.isR, cond_true, cond_true]
      refine (bt_walk f t hx L (out ++ [p]) (fun q hq => hv q (List.mem_cons_of_mem _ hq)) (by simp at hl ⊢; omega)).trans ?_
      rw [List.append_assoc, List.singleton_append]
    | false =>
      rw [cond_false, Option.bind_some, if_neg (by simp), List.append_nil]
      show (bif shpB [[.ptr 2 0], [.str f], [x]] then (bif false then _ else _) else none) = _
      rw [shp_of hx.isR, cond_true, cond_false]
      exact bt_endR gFoA kk f t hx.isR _ _ _
theorem px_walk (f : Ky) {x : PV} {l : List (Ky × PV)} (hx : RfOK x f l) : ∀ (L out : List (Ky × PV)), (∀ p ∈ L, vok p.2 = true) → out.length + L.length ≤ 1000 →
    walkY (pxY gFoA f) L [[.ptr 2 0], [.str f], [x]] (.fr (pxBx f x) none (.fr (lpBx f x (pSl out)) none .nil)) (fun bs o _ => rangeEnd 22 [27, 25, 24] (pxρ f) (jumpK 0 (pxKr gFoA kk) (pxKr gFoA kk)) bs o) = kk [[.ptr 2 0], [.str f], [x]] (pSl (out ++ L.takeWhile (fun p => preB f p.1)))
  | [], out, hv, hl => by
    rw [List.takeWhile_nil, List.append_nil]
    exact px_end gFoA kk f hx.isR _ _ _
  | p :: L, out, hv, hl => by
    have hvp := hv p List.mem_cons_self
    have hst := px_step (R := List (List PV) × Out × Bool) gFoA f hx.isR (some out.isEmpty) out.length (pcs out) p.1 (valP p.2) (fun b o v => some (b, o, v))
    rw [apR_t (by simp at hl; omega), cond_f (b := decide _) (decide_eq_false (by simp at hl; omega)), valP_eq hvp, flag_app (p := p), pcs_one, ← pcs_append, show out.length + 1 = (out ++ [p]).length by simp, Bool.not_not] at hst
    simp only [walkY]
    unfold yF
    refine (congrArg (fun o => Option.bind o _) hst).trans ?_
    rw [List.takeWhile_cons]
    cases hq : preB f p.1 with
    | true =>
      rw [cond_true, Option.bind_some, if_pos rfl]
      show (bif shpB [[.ptr 2 0], [.str f], [x]] then (bif true then _ else _) else none) = _
      rw [shp_of hx.isR, cond_true, cond_true]
      refine (px_walk f hx L (out ++ [p]) (fun q hq => hv q (List.mem_cons_of_mem _ hq)) (by simp at hl ⊢; omega)).trans ?_
      rw [List.append_assoc, List.singleton_append]
    | false =>
      rw [cond_false, Option.bind_some, if_neg (by simp), List.append_nil]
      show (bif shpB [[.ptr 2 0], [.str f], [x]] then (bif false then _ else _) else none) = _
      rw [shp_of hx.isR, cond_true, cond_false]
      exact px_endR gFoA kk f hx.isR _ _ _
end
def hList : HFn := ⟨fun bs xs k => match bs, xs with
  | [[.ptr 3 0], [.str f], [.str t], [x]], [.clo g [.ptr 0 0, .ptr 1 0, .ptr 2 0]] => bif g == 56 then (gRf x f).bind fun l => bif decide (l.length ≤ 1000) then k [[.ptr 3 0], [.str f], [.str t], [x]] (pSl (l.takeWhile (btT t))) else none else none
  | [[.ptr 2 0], [.str f], [x]], [.clo g [.ptr 0 0, .ptr 1 0]] => bif g == 57 then (gRf x f).bind fun l => bif decide (l.length ≤ 1000) then k [[.ptr 2 0], [.str f], [x]] (pSl (l.takeWhile (fun p => preB f p.1))) else none else none
  | [[.nilptr], [.str f], [.str t]], [.clo g [.ptr 0 0, .ptr 1 0, .ptr 2 0]] => bif g == 56 then k [[.nilptr], [.str f], [.str t]] nil2 else none
  | _, _ => none⟩
theorem ok_lhFr : AllH NGt Wt lhFr := allH_cons ok_from allH_nil
theorem ok_liFr : AllI NGt Wt (liFr gFoA) := allI_cons okFrom1 allI_nil
theorem ok_iBtw : IOK NGt Wt 56 (iBtw gFoA) := evalJ_ok allOK_nil ok_lhFr ok_liFr Try.func56 rfl (by decide)
theorem ok_iPre : IOK NGt Wt 57 (iPre gFoA) := evalJ_ok (allOK_cons ok_hpre allOK_nil) ok_lhFr ok_liFr Try.func57 rfl (by decide)
theorem ok_liI : AllI NGt Wt [(56, iBtw gFoA), (57, iPre gFoA)] := allI_cons ok_iBtw (allI_cons ok_iPre allI_nil)
theorem li_nat : (enLi gFoA).nat := (env_okH wokt allOK_nil allH_nil ok_liI).nat
theorem liY_nat : (liY gFoA).nat := rangeY_nat (round_nat li_nat)
theorem lpY_nat : (lpY gFoA).nat := rangeY_nat (round_nat li_nat)
theorem lnY_nat : (lnY gFoA).nat := rangeY_nat (round_nat li_nat)
theorem ok_list : HOK NGt Wt 13 hList := by
  refine hok wokt allOK_nil allH_nil ok_liI (h := h0) Try.func13 rfl (by decide) ?_ ?_
  · intro R bs xs k
    simp only [hList]
    split
    · rw [bif_bind, obind_assoc]; congr 2; funext l; rw [bif_bind]; rfl
    · rw [bif_bind, obind_assoc]; congr 2; funext l; rw [bif_bind]; rfl
    · rw [bif_bind]; rfl
    · rfl
  · intro bs xs r h
    simp only [hList] at h
    split at h
    · rename_i f t x g
      replace h := bif_inv h
      obtain ⟨hg, h⟩ := h
      replace h := bind_some_inv h
      obtain ⟨l, hl, h⟩ := h
      replace h := bif_inv h
      obtain ⟨hn, h⟩ := h
      obtain rfl : g = 56 := by simpa using hg
      simp only [decide_eq_true_eq] at hn
      have hx := gRf_ok hl
      refine ⟨0, (bt_raw0 gFoA _ f t hx.isR).trans ((evalJ_eq liY_nat).trans ((bt_raw1 gFoA _ f t hx.isR).trans ?_))⟩
      rw [hx.walk]
      refine (bt_walk _ f t hx l [] hx.vok (by simpa using hn)).trans ?_
      rw [List.nil_append]
      exact h
    · rename_i f x g
      replace h := bif_inv h
      obtain ⟨hg, h⟩ := h
      replace h := bind_some_inv h
      obtain ⟨l, hl, h⟩ := h
      replace h := bif_inv h
      obtain ⟨hn, h⟩ := h
      obtain rfl : g = 57 := by simpa using hg
      simp only [decide_eq_true_eq] at hn
      have hx := gRf_ok hl
      refine ⟨0, (px_raw0 gFoA _ f hx.isR).trans ((evalJ_eq lpY_nat).trans ((px_raw1 gFoA _ f hx.isR).trans ?_))⟩
      rw [hx.walk]
      refine (px_walk _ f hx l [] hx.vok (by simpa using hn)).trans ?_
      rw [List.nil_append]
      exact h
    · rename_i f t g
      replace h := bif_inv h
      obtain ⟨hg, h⟩ := h
      obtain rfl : g = 56 := by simpa using hg
      exact ⟨0, (bn_raw0 gFoA _ f t).trans ((evalJ_eq lnY_nat).trans ((bn_raw1 gFoA _ f t).trans h))⟩
    · cases h
/-! ## the document's Between and Prefix -/
section
variable {l : List (Ky × PV)} (hv : ∀ p ∈ l, vok p.2 = true) (hl : l.length ≤ 100000)
include hv hl
theorem rw_loop (fu : Nat) (nl : Option Bool) (f t : Ky) : ∀ (m i n : Nat) (out : List (Ky × PV)), i + m = l.length → m < n → out.length ≤ i → rwLoop fu n (frRw f t (some out.isEmpty) out.length (pcs out) nl l.length (pcs l) (l.length : Int) (i : Int)) = some (pSl (out ++ (l.drop i).filter fun p => btw f t p.1))
  | m, i, 0, out, hi, hn, ho => by omega
  | 0, i, n + 1, out, hi, hn, ho => by
    unfold rwLoop
    rw [loopF_succ, rw_step, cond_f (decide_eq_false (by omega)), List.drop_eq_nil_of_le (by omega)]
    simp [pSl]
  | m + 1, i, n + 1, out, hi, hn, ho => by
    have hp : l[i]? = some l[i] := List.getElem?_eq_getElem (by omega)
    have hvp := hv _ (List.getElem_mem (show i < l.length by omega))
    rw [drop_cons_some hp]
    unfold rwLoop
    rw [loopF_succ, rw_step, cond_t (decide_eq_true (by omega)), pairAt_eq hp hvp, List.filter_cons]
    cases hb : btw f t l[i].1 with
    | true =>
      have ih := rw_loop fu nl f t m (i + 1) n (out ++ [l[i]]) (by omega) (by omega) (by simp; omega)
      unfold rwLoop at ih
      rw [cond_true, apR_t (by omega), wrapI_of (by omega) (by omega), valP_eq hvp, if_pos rfl, flag_app (p := l[i]), pcs_one, ← pcs_append, show out.length + 1 = (out ++ [l[i]]).length by simp]
      rw [List.append_assoc, List.singleton_append] at ih
      exact ih
    | false =>
      have ih := rw_loop fu nl f t m (i + 1) n out (by omega) (by omega) (by omega)
      unfold rwLoop at ih
      rw [cond_false, wrapI_of (by omega) (by omega), if_neg (by simp)]
      exact ih
theorem rx_loop (fu : Nat) (nl : Option Bool) (q : Ky) : ∀ (m i n : Nat) (out : List (Ky × PV)), i + m = l.length → m < n → out.length ≤ i → rxLoop fu n (frRx q (some out.isEmpty) out.length (pcs out) nl l.length (pcs l) (l.length : Int) (i : Int)) = some (pSl (out ++ (l.drop i).filter fun p => preB q p.1))
  | m, i, 0, out, hi, hn, ho => by omega
  | 0, i, n + 1, out, hi, hn, ho => by
    unfold rxLoop
    rw [loopF_succ, rx_step, cond_f (decide_eq_false (by omega)), List.drop_eq_nil_of_le (by omega)]
    simp [pSl]
  | m + 1, i, n + 1, out, hi, hn, ho => by
    have hp : l[i]? = some l[i] := List.getElem?_eq_getElem (by omega)
    have hvp := hv _ (List.getElem_mem (show i < l.length by omega))
    have ih0 := rx_loop fu nl q m (i + 1) n out (by omega) (by omega) (by omega)
    have ih := rx_loop fu nl q m (i + 1) n (out ++ [l[i]]) (by omega) (by omega) (by simp; omega)
    rw [drop_cons_some hp]
    unfold rxLoop at ih ih0 ⊢
    rw [loopF_succ, rx_step, cond_t (decide_eq_true (by omega)), pairAt_eq hp hvp, List.filter_cons, wrapI_of (by omega) (by omega)]
    unfold preB
    by_cases hle : q.length ≤ l[i].1.length
    · rw [show decide (((q.length : Nat) : Int) ≤ ((l[i].1.length : Nat) : Int)) = true from decide_eq_true (by omega), cond_true, cond_true, show decide ((0 : Int) ≤ ((q.length : Nat) : Int)) = true from decide_eq_true (by omega), cond_t (by rfl), Int.toNat_natCast, List.drop_zero]
      cases hb : l[i].1.take q.length == q with
      | true =>
        rw [cond_true, apR_t (by omega), valP_eq hvp, if_pos rfl, flag_app (p := l[i]), pcs_one, ← pcs_append, show out.length + 1 = (out ++ [l[i]]).length by simp]
        rw [List.append_assoc, List.singleton_append] at ih
        exact ih
      | false =>
        rw [cond_false, if_neg (by simp)]
        exact ih0
    · rw [show decide (((q.length : Nat) : Int) ≤ ((l[i].1.length : Nat) : Int)) = false from decide_eq_false (by omega), cond_false, cond_false, if_neg (by simp)]
      exact ih0
end
def p_rbtw : PFn := ⟨fun xs k => match xs with | [.sl nl 2 n c, .str f, .str t] => (gP n c).bind fun l => k (pSl (l.filter fun p => btw f t p.1)) | _ => none, false⟩
def p_rpre : PFn := ⟨fun xs k => match xs with | [.sl nl 2 n c, .str q] => (gP n c).bind fun l => k (pSl (l.filter fun p => preB q p.1)) | _ => none, false⟩
theorem ok_rbtw : FOK NGt Wt 15 p_rbtw := by
  refine fok wokt allOK_nil (h := hRw) Try.func15 rfl (by decide) ?_ ?_
  · intro R xs k
    simp only [p_rbtw]
    split
    · rw [obind_assoc]; rfl
    · rfl
  · intro xs r h
    simp only [p_rbtw] at h
    split at h
    · rename_i nl n c f t
      replace h := bind_some_inv h
      obtain ⟨l, hl, h⟩ := h
      obtain ⟨rfl, rfl, a3, a4⟩ := gP_inv hl
      exact ⟨l.length + 1, ((rw_raw ..).trans (rw_loop a4 a3 (l.length + 1) nl f t l.length 0 (l.length + 1) [] (by omega) (by omega) (by simp))).trans h⟩
    · cases h
theorem ok_rpre : FOK NGt Wt 17 p_rpre := by
  refine fok wokt allOK_nil (h := hRx) Try.func17 rfl (by decide) ?_ ?_
  · intro R xs k
    simp only [p_rpre]
    split
    · rw [obind_assoc]; rfl
    · rfl
  · intro xs r h
    simp only [p_rpre] at h
    split at h
    · rename_i nl n c q
      replace h := bind_some_inv h
      obtain ⟨l, hl, h⟩ := h
      obtain ⟨rfl, rfl, a3, a4⟩ := gP_inv hl
      exact ⟨l.length + 1, ((rx_raw ..).trans (rx_loop a4 a3 (l.length + 1) nl q l.length 0 (l.length + 1) [] (by omega) (by omega) (by simp))).trans h⟩
    · cases h
end Go.Proofs.Ytmacjkiamejcnaa
