/-
  Contracts of the tree's functions that say less of their results: leafOf, above, split.
-/
import Derived.Test.YtmacjkiamejcnaaTq
import Derived.Test.YtmacjkiamejcnaaTGa
import Derived.Test.YtmacjkiamejcnaaPGw
set_option linter.unusedVariables false
set_option linter.unusedSimpArgs false
set_option maxRecDepth 100000
namespace Go.Proofs.Ytmacjkiamejcnaa
open Go.RowKit
/-- a function whose run yields something that says more -/
theorem fokW {NG : Nat} {W : World → Prop} (hW : WOK NG W) {l : List (FuncId × PFn)} (hl : AllOK NG W l) {lh : List (FuncId × HFn)} (hh : AllH NG W lh) {li : List (FuncId × IFn)} (hi : AllI NG W li) {ln : List (FuncId × NFn)} (hna : AllN NG W ln) {lc : List (FuncId × CFn)} (hc : AllC NG W lc) (lp : List TypeId) {f : FuncId} {fn : Func} (hf : Try.prog.funcs[f]? = some fn) (hb : fn.body.isSome = true) (hname : fn.name ≠ "runtime.NumGoroutine") {p : PFn} (hn : p.nat) (ho : p.own = false) {h : Hints} (fuel : Nat)
    (hrun : ∀ xs r', p.F xs (R := PV) some = some r' → ∃ r, prun (enR (enA l lh li ln lc) lp) h fuel false fn xs = some r ∧ Wk r r') : FOK NG W f p :=
  have hE := (env_okR (env_okA hW hl hh hi hna hc) lp).nat
  fok_weaken (fokR hW hl hh hi hna hc lp hf hb hname (p := evalE (enR (enA l lh li ln lc) lp) h fuel fn false) (h := h) (evalE_nat hE) (fun xs r hr => ⟨fuel, evalE_run hE xs r hr⟩)) hn ho (fun xs r' hr => by
    obtain ⟨r, h1, h2⟩ := hrun xs r' hr
    exact ⟨r, by rw [evalE_F hE, h1]; rfl, h2⟩)
def p_lf : PFn := ⟨fun xs k => match xs with | [.sl kn 1 kl kc, .sl vn 1 vl vc] => k (.eptr [.sl none 1 kl kc, .sl none 1 vl vc, .sl (some true) 1 0 [], .int .i64 (kl : Int)]) | _ => none, false⟩
theorem ok_lf : FOK NGt Wt 67 p_lf := by
  refine fok_weaken ok_leafOf ?_ rfl ?_
  · intro R xs k
    simp only [p_lf]
    split <;> rfl
  · intro xs r' h
    simp only [p_lf] at h
    split at h
    · injection h with h
      subst h
      refine ⟨_, rfl, ?_⟩
      simp only [Wk, WkL, WkL.refl]
      simp
    · cases h
def p_ab : PFn := ⟨fun xs k => match xs with | [.sl n9 1 l9 c9] => (mapO kidKC c9).bind fun ks => bif abG l9 c9 ks then k (.eptr [.sl none 1 c9.length (abKeys ks), .sl (some true) 1 0 [], .sl n9 1 c9.length c9, .int .i64 (abSum ks)]) else none | _ => none, false⟩
theorem ok_ab : FOK NGt Wt 69 p_ab := by
  refine fok_weaken ok_above ?_ rfl ?_
  · intro R xs k
    simp only [p_ab]
    split
    · rename_i n9 l9 c9
      rcases mapO kidKC c9 with _ | ks
      · rfl
      · simp only [Option.bind_some]
        cases abG l9 c9 ks <;> rfl
    · rfl
  · intro xs r' h
    simp only [p_ab] at h
    split at h
    · rename_i n9 l9 c9
      obtain ⟨ks, hk, h⟩ := bind_some_inv h
      obtain ⟨hb, h⟩ := bif_inv h
      injection h with h
      subst h
      refine ⟨abR n9 c9 ks, ?_, ?_⟩
      · simp only [p_above, hk, Option.bind_some, hb, cond_true]
      · unfold abR
        simp only [Wk, WkL, WkL.refl]
        simp
    · cases h
theorem ab_nat {R : Type} (xs : List PV) (k : PV → Option R) : p_ab.F xs k = (p_ab.F xs some).bind k := (ok_ab).nat R xs k

/-! ## above, split of trees -/
theorem kidKC_enc {d : Nat} {t : TrD PV d} (h : 0 < szD d t) : kidKC (enc d t) = some (lkD d t, ((cD d t).length : Int)) := by
  cases d with
  | zero =>
    cases ht : as0 t with
    | nil => have : szD 0 t = (as0 t).length := rfl; rw [this, ht] at h; simp at h
    | cons p r =>
      have e : t = (p :: r : List (Ky × PV)) := ht
      subst e
      rfl
  | succ d =>
    cases ht : asL t with
    | nil => have : szD (d + 1) t = (asL t).length := rfl; rw [this, ht] at h; simp at h
    | cons p r =>
      have e : t = (p :: r : List (TrD PV d)) := ht
      subst e
      rfl
theorem abSum_enc {d : Nat} : ∀ {ks : List (TrD PV d)}, abSum (ks.map fun k => (lkD d k, ((cD d k).length : Int))) = ((ks.flatMap (cD d)).length : Int)
  | [] => rfl
  | k :: ks => by
    have := abSum_enc (ks := ks)
    unfold abSum at this ⊢
    simp only [List.map_cons, List.sum_cons, List.flatMap_cons, List.length_append] at this ⊢
    rw [this]
    omega
theorem mapO_kidKC {d : Nat} : ∀ {ks : List (TrD PV d)}, (∀ k ∈ ks, 0 < szD d k) → mapO kidKC (ks.map (enc d)) = some (ks.map fun k => (lkD d k, ((cD d k).length : Int)))
  | [], _ => rfl
  | k :: ks, h => by
    rw [List.map_cons, mapO, kidKC_enc (h k List.mem_cons_self), mapO_kidKC fun x hx => h x (List.mem_cons_of_mem _ hx)]
    rfl
theorem len_mem_flat {d : Nat} {ks : List (TrD PV d)} {k : TrD PV d} (h : k ∈ ks) : (cD d k).length ≤ (ks.flatMap (cD d)).length := by
  obtain ⟨i, hi, rfl⟩ := List.getElem_of_mem h
  have e := flat_split (d := d) (List.getElem?_eq_getElem hi)
  rw [e, List.length_append, List.length_append]
  omega
theorem ab_enc {R : Type} {d : Nat} {ks : List (TrD PV d)} (h : ∀ k ∈ ks, okD 4 d k) (hl : ks.length ≤ 1000) (hc : (ks.flatMap (cD d)).length ≤ 100000) (K : PV → Option R) :
    p_ab.F [.sl (some false) 1 ks.length (ks.map (enc d))] K = K (enc (d + 1) (ofL ks)) := by
  have h0 : ∀ k ∈ ks, 0 < szD d k := fun k hk => by have := (h k hk).sz; omega
  have hg : abG ks.length (ks.map (enc d)) (ks.map fun k => (lkD d k, ((cD d k).length : Int))) = true := by
    unfold abG
    rw [List.length_map, decide_eq_true rfl, decide_eq_true hl, List.all_map]
    simp only [Bool.true_and, List.all_eq_true]
    intro k hk
    have := len_mem_flat hk
    simp only [Function.comp]
    rw [decide_eq_true (by omega), decide_eq_true (by omega)]
    rfl
  simp only [p_ab]
  rw [mapO_kidKC h0, Option.bind_some, hg, cond_true, abSum_enc, List.length_map]
  unfold abKeys
  rw [List.map_map]
  rfl
def splitD : (d : Nat) → TrD PV d → List (TrD PV d)
  | 0, l => splitL (as0 l)
  | _ + 1, ks => splitL (asL ks)
/-- a node that may be split: its kids are right -/
def kidsB : (d : Nat) → TrD PV d → Bool
  | 0, _ => true
  | d + 1, ks => (asL ks).all (okB 4 d)
def gdS (d : Nat) (t : TrD PV d) : Bool := decide (1 ≤ szD d t) && (decide (szD d t ≤ 16) && (kidsB d t && decide ((cD d t).length ≤ 100000)))
/-- a list of trees as the evaluator's slice -/
def encs (d : Nat) (l : List (TrD PV d)) : Nat × List PV := (l.length, l.map (enc d))
theorem encs_le0 {l : List (Ky × PV)} (h : l.length ≤ 8) : encs 0 (splitD 0 (ofL0 l)) = (1, [enc 0 (ofL0 l)]) := congrArg (encs 0) (show splitL l = [l] from if_pos h)
theorem encs_gt0 {l : List (Ky × PV)} (h : ¬ l.length ≤ 8) : encs 0 (splitD 0 (ofL0 l)) = (2, [enc 0 (ofL0 (l.take (l.length / 2))), enc 0 (ofL0 (l.drop (l.length / 2)))]) := congrArg (encs 0) (show splitL l = [l.take (l.length / 2), l.drop (l.length / 2)] from if_neg h)
theorem encs_leS {d : Nat} {l : List (TrD PV d)} (h : l.length ≤ 8) : encs (d + 1) (splitD (d + 1) (ofL l)) = (1, [enc (d + 1) (ofL l)]) := congrArg (encs (d + 1)) (show splitL l = [l] from if_pos h)
theorem encs_gtS {d : Nat} {l : List (TrD PV d)} (h : ¬ l.length ≤ 8) : encs (d + 1) (splitD (d + 1) (ofL l)) = (2, [enc (d + 1) (ofL (l.take (l.length / 2))), enc (d + 1) (ofL (l.drop (l.length / 2)))]) := congrArg (encs (d + 1)) (show splitL l = [l.take (l.length / 2), l.drop (l.length / 2)] from if_neg h)
def gS (d : Nat) (cs : List PV) : Option (Nat × List PV) := (dec d (.eptr cs)).bind fun t => bif gdS d t then some (encs d (splitD d t)) else none
def tSplit (g : List PV → Option (Nat × List PV)) : PFn := ⟨fun xs k => match xs with | [.eptr cs] => (g cs).bind fun r => k (.sl (some false) 1 r.1 r.2) | _ => none, false⟩
theorem tSplit_nat (g : List PV → Option (Nat × List PV)) : (tSplit g).nat := by
  intro R xs k
  simp only [tSplit]
  split
  · rw [obind_assoc]; rfl
  · rfl
theorem spl_key0 (l : List (Ky × PV)) (g1 : 1 ≤ szD 0 (ofL0 l)) (g2 : szD 0 (ofL0 l) ≤ 16) : ∃ r, prun (en lSp) ⟨[], []⟩ 0 false Try.f84 [enc 0 (ofL0 l)] = some r ∧ Wk r (.sl (some false) 1 (encs 0 (splitD 0 (ofL0 l))).1 (encs 0 (splitD 0 (ofL0 l))).2) := by
  have hs : szD 0 (ofL0 l) = l.length := rfl
  rw [hs] at g1 g2
  have ee : enc 0 (ofL0 l) = ndV none l.length (l.map fun p => .str p.1) none l.length (l.map (·.2)) true 0 [] (l.length : Int) := rfl
  rw [ee, sp_raw]
  refine ⟨.sl (some false) 1 (encs 0 (splitD 0 (ofL0 l))).1 (encs 0 (splitD 0 (ofL0 l))).2, ?_, Wk.refl _⟩
  by_cases h8 : l.length ≤ 8
  · rw [cond_t (decide_eq_true (by omega)), show encs 0 (splitD 0 (ofL0 l)) = (1, [enc 0 (ofL0 l)]) from encs_le0 h8, ee]
  · rw [cond_f (decide_eq_false (by omega)), sp_eq _ _ _ _ _ _ _ _ (by omega) (fun e => by cases e), show encs 0 (splitD 0 (ofL0 l)) = _ from encs_gt0 h8, enc_zero, enc_zero]
    have e1 : l.length / 2 ≤ l.length := Nat.div_le_self _ _
    simp only [spF, cond_true, lfV, List.length_take, List.length_drop, List.map_take, List.map_drop, Nat.min_eq_left e1]
    rw [List.take_of_length_le (i := l.length) (l := l.map fun p => PV.str p.1) (by rw [List.length_map]; exact Nat.le_refl _), List.take_of_length_le (i := l.length) (l := l.map (·.2)) (by rw [List.length_map]; exact Nat.le_refl _)]
theorem spl_keyS {d : Nat} (l : List (TrD PV d)) (g1 : 1 ≤ szD (d + 1) (ofL l)) (g2 : szD (d + 1) (ofL l) ≤ 16) (g3 : kidsB (d + 1) (ofL l) = true) (g4 : (cD (d + 1) (ofL l)).length ≤ 100000) : ∃ r, prun (en lSp) ⟨[], []⟩ 0 false Try.f84 [enc (d + 1) (ofL l)] = some r ∧ Wk r (.sl (some false) 1 (encs (d + 1) (splitD (d + 1) (ofL l))).1 (encs (d + 1) (splitD (d + 1) (ofL l))).2) := by
  have hs : szD (d + 1) (ofL l) = l.length := rfl
  rw [hs] at g1 g2
  have hk : ∀ k ∈ l, okD 4 d k := fun k hk => (okB_iff 4 d k).1 (List.all_eq_true.1 g3 k hk)
  have hc : cD (d + 1) (ofL l) = l.flatMap (cD d) := rfl
  rw [hc] at g4
  have ee : enc (d + 1) (ofL l) = ndV none l.length (l.map fun k => .str (lkD d k)) (some true) 0 [] false l.length (l.map (enc d)) ((cD (d + 1) (ofL l)).length : Int) := rfl
  have raw := sp_raw none l.length (l.map fun k => .str (lkD d k)) (some true) 0 [] false l.length (l.map (enc d)) ((cD (d + 1) (ofL l)).length : Int)
  rw [ee, raw]
  clear raw
  by_cases h8 : l.length ≤ 8
  · refine ⟨_, cond_t (decide_eq_true (by omega)), ?_⟩
    rw [← ee, show encs (d + 1) (splitD (d + 1) (ofL l)) = (1, [enc (d + 1) (ofL l)]) from encs_leS h8]
    exact Wk.refl _
  · have hA : ∀ (m : List (TrD PV d)), (∀ k ∈ m, k ∈ l) → m.length ≤ 16 → (m.flatMap (cD d)).length ≤ 100000 → ∃ y, Wk y (enc (d + 1) (ofL m)) ∧ ∀ (K : PV → Option PV), p_above.F [.sl (some false) 1 m.length (m.map (enc d))] K = K y := by
      intro m hl hl2 hl3
      have h1 := ab_enc (R := PV) (ks := m) (fun k hk' => hk k (hl k hk')) (by omega) hl3 some
      have h0 : ∀ k ∈ m, 0 < szD d k := fun k hk' => by have := (hk k (hl k hk')).sz; omega
      simp only [p_ab] at h1
      rw [mapO_kidKC h0, Option.bind_some] at h1
      obtain ⟨hb, h1⟩ := bif_inv h1
      injection h1 with h1
      refine ⟨_, ?_, fun K => by simp only [p_above]; rw [mapO_kidKC h0, Option.bind_some, hb, cond_true]⟩
      rw [← h1]
      unfold abR
      simp only [Wk, WkL, WkL.refl]
      simp
    have e1 : l.length / 2 ≤ l.length := Nat.div_le_self _ _
    have hsplit : (l.flatMap (cD d)).length = ((l.take (l.length / 2)).flatMap (cD d)).length + ((l.drop (l.length / 2)).flatMap (cD d)).length := by
      conv => lhs; rw [← List.take_append_drop (l.length / 2) l, List.flatMap_append, List.length_append]
    obtain ⟨y1, w1, q1⟩ := hA (l.take (l.length / 2)) (fun k hk => List.mem_of_mem_take hk) (by rw [List.length_take]; omega) (by omega)
    obtain ⟨y2, w2, q2⟩ := hA (l.drop (l.length / 2)) (fun k hk => List.mem_of_mem_drop hk) (by rw [List.length_drop]; omega) (by omega)
    refine ⟨.sl (some false) 1 2 [y1, y2], ?_, ?_⟩
    · rw [cond_f (decide_eq_false (by omega))]
      have hw : IntKind.i64.wrap ((l.length : Int).tdiv 2) = ((l.length / 2 : Nat) : Int) := by
        have : (l.length : Int).tdiv 2 = ((l.length / 2 : Nat) : Int) := by rw [Int.tdiv_eq_ediv_of_nonneg (by omega)]; omega
        rw [this, wrapI_of (by omega) (by omega)]
      rw [hw]
      unfold spK
      have d1 : (decide (0 ≤ ((l.length / 2 : Nat) : Int)) && decide (((l.length / 2 : Nat) : Int) ≤ (l.length : Int))) = true := by rw [decide_eq_true (by omega), decide_eq_true (by omega)]; rfl
      have d2 : (decide (0 ≤ ((l.length / 2 : Nat) : Int)) && decide (((l.length / 2 : Nat) : Int) ≤ ((l.length / 2 : Nat) : Int))) = true := by rw [decide_eq_true (by omega), decide_eq_true (by omega)]; rfl
      simp only [cond_false, cond_true, d1, d2, Int.toNat_natCast, Nat.mul_one, Nat.zero_mul, List.drop_zero, Nat.sub_zero]
      rw [List.length_take, Nat.min_eq_left e1, List.map_take] at q1
      rw [List.length_drop, List.map_drop] at q2
      rw [q1]
      rw [List.take_of_length_le (l := List.map _ _) (by rw [List.length_map]; exact Nat.le_refl _), q2]
    · rw [show encs (d + 1) (splitD (d + 1) (ofL l)) = _ from encs_gtS h8]
      simp only [Wk, WkL]
      exact ⟨.inr trivial, trivial, trivial, w1, w2, trivial⟩
theorem ok_spl (d : Nat) : FOK NGt Wt 84 (tSplit (gS d)) := by
  refine fok_weaken (evalFn_ok wokt okl_sp (h := ⟨[], []⟩) (fuel := 0) (own := false) Try.func84 rfl (by decide)) (tSplit_nat _) rfl ?_
  intro xs r' h
  have hE := (env_ok wokt okl_sp).nat
  simp only [tSplit] at h
  split at h
  · rename_i cs
    obtain ⟨r, hr, h⟩ := bind_some_inv h
    injection h with h
    subst h
    unfold gS at hr
    obtain ⟨t, ht, hr⟩ := bind_some_inv hr
    obtain ⟨hg, hr⟩ := bif_inv hr
    injection hr with hr
    subst hr
    obtain ⟨e, hv⟩ := dec_inv ht
    unfold gdS at hg
    simp only [Bool.and_eq_true, decide_eq_true_eq] at hg
    obtain ⟨g1, g2, g3, g4⟩ := hg
    rw [e]
    have key : ∃ r, prun (en lSp) ⟨[], []⟩ 0 false Try.f84 [enc d t] = some r ∧ Wk r (.sl (some false) 1 (encs d (splitD d t)).1 (encs d (splitD d t)).2) := by
      cases d with
      | zero => exact spl_key0 t g1 g2
      | succ d => exact spl_keyS t g1 g2 g3 g4
    obtain ⟨r, k1, k2⟩ := key
    refine ⟨r, ?_, k2⟩
    unfold evalFn
    rw [evalE_F hE, k1]
    rfl
  · cases h
end Go.Proofs.Ytmacjkiamejcnaa
