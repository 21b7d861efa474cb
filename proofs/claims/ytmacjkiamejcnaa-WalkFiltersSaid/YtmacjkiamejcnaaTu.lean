/-
  joined and mend of a tree's nodes: their contracts.
-/
import Derived.Test.YtmacjkiamejcnaaTt
set_option linter.unusedVariables false
set_option linter.unusedSimpArgs false
set_option maxRecDepth 100000
namespace Go.Proofs.Ytmacjkiamejcnaa
open Go.RowKit
theorem enc_ptr (d : Nat) (t : TrD PV d) : ∃ cs, enc d t = .eptr cs := by cases d <;> exact ⟨_, rfl⟩
theorem tSplit_enc {R : Type} {d : Nat} {t : TrD PV d} (hg : gdS d t = true) (hv : ∀ p ∈ cD d t, vok p.2 = true) (k : PV → Option R) : (tSplit (gS d)).F [enc d t] k = k (.sl (some false) 1 (encs d (splitD d t)).1 (encs d (splitD d t)).2) := by
  obtain ⟨cs, e⟩ := enc_ptr d t
  rw [e]
  simp only [tSplit, gS]
  rw [← e, dec_enc hv, Option.bind_some, hg, cond_true, Option.bind_some]
def gZ (cs : List PV) : Option Int := match cs with | [.sl kn 1 kl kc, .sl vn 1 vl vc, .sl (some ni) 1 il ic, .int .i64 c] => some (kl : Int) | _ => none
theorem ok_sizeT : FOK NGt Wt 98 (tSize gZ) := by
  refine fok_weaken ok_size ?_ rfl ?_
  · intro R xs k
    simp only [tSize]
    split
    · rw [obind_assoc]; rfl
    · rfl
  · intro xs r' h
    simp only [tSize] at h
    split at h
    · obtain ⟨n, hn, h⟩ := bind_some_inv h
      injection h with h
      subst h
      unfold gZ at hn
      split at hn
      · injection hn with hn
        subst hn
        exact ⟨_, rfl, Wk.refl _⟩
      · cases hn
    · cases h
theorem gZ_enc {d : Nat} {t : TrD PV d} {cs : List PV} (h : enc d t = .eptr cs) : gZ cs = some (szD d t : Int) := by
  cases d with
  | zero =>
    have e : enc 0 t = .eptr [.sl none 1 (szD 0 t) _, _, .sl (some true) 1 0 [], _] := rfl
    rw [e] at h
    injection h with h
    subst h
    rfl
  | succ d =>
    have e : enc (d + 1) t = .eptr [.sl none 1 (szD (d + 1) t) _, .sl (some true) 1 0 [], .sl (some false) 1 _ _, _] := rfl
    rw [e] at h
    injection h with h
    subst h
    rfl
/-! ## joined -/
def gdJ (d : Nat) (x y : TrD PV d) : Bool := decide (1 ≤ szD d x) && (decide (1 ≤ szD d y) && (decide (szD d x + szD d y ≤ 16) && (kidsB d x && (kidsB d y && decide ((cD d x).length + (cD d y).length ≤ 100000)))))
def gJ (d : Nat) (a b : List PV) : Option (Nat × List PV) := (dec d (.eptr a)).bind fun x => (dec d (.eptr b)).bind fun y => bif gdJ d x y then some (encs d (joinD d x y)) else none
theorem tJoin_nat (g : List PV → List PV → Option (Nat × List PV)) : (tJoin g).nat := by
  intro R xs k
  simp only [tJoin]
  split
  · rw [obind_assoc]; rfl
  · rfl
theorem okl_jn {gs : List PV → Option (Nat × List PV)} (h : FOK NGt Wt 84 (tSplit gs)) : AllOK NGt Wt (lJn gs) :=
  allOK_cons ok_leaf (allOK_cons ok_cat_s (allOK_cons ok_cat_i (allOK_cons ok_cat_n (allOK_cons ok_lf (allOK_cons ok_ab (allOK_cons h allOK_nil))))))
theorem cat_s_F {R : Type} {a b : Option Bool} {k1 k2 : Nat} {c1 c2 : List PV} (h : catG k1 k2 = true) (K : PV → Option R) : p_cat_s.F [.sl (some false) 1 2 [.sl a 1 k1 c1, .sl b 1 k2 c2]] K = K (.sl (some false) 1 (k1 + k2) (c1 ++ c2)) := by
  show (bif catG k1 k2 then _ else none) = _
  rw [h]; rfl
theorem cat_i_F {R : Type} {a b : Option Bool} {k1 k2 : Nat} {c1 c2 : List PV} (h : catG k1 k2 = true) (K : PV → Option R) : p_cat_i.F [.sl (some false) 1 2 [.sl a 1 k1 c1, .sl b 1 k2 c2]] K = K (.sl (some false) 1 (k1 + k2) (c1 ++ c2)) := by
  show (bif catG k1 k2 then _ else none) = _
  rw [h]; rfl
theorem cat_n_F {R : Type} {a b : Option Bool} {k1 k2 : Nat} {c1 c2 : List PV} (h : catG k1 k2 = true) (K : PV → Option R) : p_cat_n.F [.sl (some false) 1 2 [.sl a 1 k1 c1, .sl b 1 k2 c2]] K = K (.sl (some false) 1 (k1 + k2) (c1 ++ c2)) := by
  show (bif catG k1 k2 then _ else none) = _
  rw [h]; rfl
theorem lf_F {R : Type} {a b : Option Bool} {k1 : Nat} {c1 c2 : List PV} (K : PV → Option R) : p_lf.F [.sl a 1 k1 c1, .sl b 1 k1 c2] K = K (.eptr [.sl none 1 k1 c1, .sl none 1 k1 c2, .sl (some true) 1 0 [], .int .i64 (k1 : Int)]) := rfl
theorem jn_eq0 (l1 l2 : List (Ky × PV)) (h1 : ∀ p ∈ l1, vok p.2 = true) (h2 : ∀ p ∈ l2, vok p.2 = true) (hg : gdJ 0 (ofL0 l1) (ofL0 l2) = true) :
    prun (enJn (gS 0)) ⟨[], []⟩ 0 false Try.f103 [enc 0 (ofL0 l1), enc 0 (ofL0 l2)] = some (.sl (some false) 1 (encs 0 (joinD 0 (ofL0 l1) (ofL0 l2))).1 (encs 0 (joinD 0 (ofL0 l1) (ofL0 l2))).2) := by
  have e1 : ∀ l : List (Ky × PV), enc 0 (ofL0 l) = ndV none l.length (l.map fun p => .str p.1) none l.length (l.map (·.2)) true 0 [] (l.length : Int) := fun l => rfl
  unfold gdJ at hg
  simp only [Bool.and_eq_true, decide_eq_true_eq] at hg
  obtain ⟨g1, g2, g3, _⟩ := hg
  have s : ∀ l : List (Ky × PV), szD 0 (ofL0 l) = l.length := fun l => rfl
  rw [s] at g1 g2 g3
  rw [s] at g3
  have hc : catG l1.length l2.length = true := by unfold catG; rw [decide_eq_true (by omega), decide_eq_true (by omega)]; rfl
  rw [e1, e1, jn_raw0, cat_s_F hc, cat_i_F hc, lf_F]
  have e2 : PV.eptr [.sl none 1 (l1.length + l2.length) ((l1.map fun p => PV.str p.1) ++ (l2.map fun p => PV.str p.1)), .sl none 1 (l1.length + l2.length) (l1.map (·.2) ++ l2.map (·.2)), .sl (some true) 1 0 [], .int .i64 ((l1.length + l2.length : Nat) : Int)] = enc 0 (ofL0 (l1 ++ l2)) := by
    rw [enc_zero, List.map_append, List.map_append, List.length_append]
  rw [e2, tSplit_enc ?_ ?_]
  · rfl
  · unfold gdS
    rw [s, List.length_append, decide_eq_true (by omega), decide_eq_true (by omega)]
    have : (cD 0 (ofL0 (l1 ++ l2))).length = l1.length + l2.length := List.length_append
    rw [this, decide_eq_true (by omega)]
    rfl
  · intro p hp
    rcases List.mem_append.1 (show p ∈ l1 ++ l2 from hp) with hp | hp
    · exact h1 p hp
    · exact h2 p hp
theorem jn_eqS {d : Nat} (l1 l2 : List (TrD PV d)) (h1 : ∀ p ∈ cD (d + 1) (ofL l1), vok p.2 = true) (h2 : ∀ p ∈ cD (d + 1) (ofL l2), vok p.2 = true) (hg : gdJ (d + 1) (ofL l1) (ofL l2) = true) :
    prun (enJn (gS (d + 1))) ⟨[], []⟩ 0 false Try.f103 [enc (d + 1) (ofL l1), enc (d + 1) (ofL l2)] = some (.sl (some false) 1 (encs (d + 1) (joinD (d + 1) (ofL l1) (ofL l2))).1 (encs (d + 1) (joinD (d + 1) (ofL l1) (ofL l2))).2) := by
  have e1 : ∀ l : List (TrD PV d), enc (d + 1) (ofL l) = ndV none l.length (l.map fun k => .str (lkD d k)) (some true) 0 [] false l.length (l.map (enc d)) ((cD (d + 1) (ofL l)).length : Int) := fun l => rfl
  unfold gdJ at hg
  simp only [Bool.and_eq_true, decide_eq_true_eq] at hg
  obtain ⟨g1, g2, g3, g4, g5, g6⟩ := hg
  have s : ∀ l : List (TrD PV d), szD (d + 1) (ofL l) = l.length := fun l => rfl
  have k4 : ∀ l : List (TrD PV d), kidsB (d + 1) (ofL l) = l.all (okB 4 d) := fun l => rfl
  have c : ∀ l : List (TrD PV d), cD (d + 1) (ofL l) = l.flatMap (cD d) := fun l => rfl
  rw [s] at g1 g2 g3
  rw [s] at g3
  rw [k4] at g4 g5
  rw [c, c] at g6
  have hc : catG l1.length l2.length = true := by unfold catG; rw [decide_eq_true (by omega), decide_eq_true (by omega)]; rfl
  have hk : ∀ k ∈ l1 ++ l2, okD 4 d k := fun k hk => by
    rcases List.mem_append.1 hk with hk | hk
    · exact (okB_iff 4 d k).1 (List.all_eq_true.1 g4 k hk)
    · exact (okB_iff 4 d k).1 (List.all_eq_true.1 g5 k hk)
  have hfl : ((l1 ++ l2).flatMap (cD d)).length = (l1.flatMap (cD d)).length + (l2.flatMap (cD d)).length := by rw [List.flatMap_append, List.length_append]
  rw [e1, e1, jn_rawS, cat_n_F hc, ← List.map_append, ← List.length_append, ab_enc hk (by rw [List.length_append]; omega) (by omega), tSplit_enc ?_ ?_]
  · rfl
  · unfold gdS
    rw [s, k4, c, List.length_append, decide_eq_true (by omega), decide_eq_true (by omega), decide_eq_true (by omega), List.all_append, g4, g5]
    rfl
  · intro p hp
    rw [c, List.flatMap_append] at hp
    rcases List.mem_append.1 hp with hp | hp
    · exact h1 p hp
    · exact h2 p hp
theorem ok_join (d : Nat) : FOK NGt Wt 103 (tJoin (gJ d)) := by
  refine fokW wokt (okl_jn (ok_spl d)) allH_nil allI_nil allN_nil allC_nil [] Try.func103 rfl (by decide) (tJoin_nat _) rfl (h := ⟨[], []⟩) 0 ?_
  intro xs r' h
  simp only [tJoin] at h
  split at h
  · rename_i a b
    obtain ⟨r, hr, h⟩ := bind_some_inv h
    injection h with h
    subst h
    unfold gJ at hr
    obtain ⟨x, hx, hr⟩ := bind_some_inv hr
    obtain ⟨y, hy, hr⟩ := bind_some_inv hr
    obtain ⟨hg, hr⟩ := bif_inv hr
    injection hr with hr
    subst hr
    obtain ⟨ex, vx⟩ := dec_inv hx
    obtain ⟨ey, vy⟩ := dec_inv hy
    rw [ex, ey]
    cases d with
    | zero => exact ⟨_, jn_eq0 x y vx vy hg, Wk.refl _⟩
    | succ d => exact ⟨_, jn_eqS x y vx vy hg, Wk.refl _⟩
  · cases h
theorem tJoin_enc {d : Nat} {x y : TrD PV d} {a b : List PV} (ha : enc d x = .eptr a) (hb : enc d y = .eptr b) (hg : gdJ d x y = true) (hv : ∀ p ∈ cD d x, vok p.2 = true) (hw : ∀ p ∈ cD d y, vok p.2 = true) : gJ d a b = some (encs d (joinD d x y)) := by
  unfold gJ
  rw [← ha, ← hb, dec_enc hv, dec_enc hw, Option.bind_some, Option.bind_some, hg]
  rfl
/-! ## mend -/
def gdM (d : Nat) (ks : List (TrD PV d)) (i : Int) : Bool := decide (0 ≤ i) && (decide (i < (ks.length : Int)) && (decide (ks.length ≤ 1000) && (ks.all (fun k => decide (1 ≤ szD d k) && (decide (szD d k ≤ 8) && kidsB d k)) && decide ((ks.flatMap (cD d)).length ≤ 100000))))
def gM (d : Nat) (n : Nat) (c : List PV) (i : Int) : Option (Nat × List PV) := (mapO (dec d) c).bind fun ks => bif decide (ks.length = n) && gdM d ks i then some (encs d (mendD ks i.toNat)) else none
theorem tMend_nat (g : Nat → List PV → Int → Option (Nat × List PV)) : (tMend g).nat := by
  intro R xs k
  simp only [tMend]
  split
  · rw [obind_assoc]; rfl
  · rfl
theorem kidAt_enc {R : Type} {d : Nat} {ks : List (TrD PV d)} {i : Nat} {k : TrD PV d} (h : ks[i]? = some k) : ∃ es, enc d k = .eptr es ∧ ∀ (K : List PV → Option R), kidAt ks.length (ks.map (enc d)) (i : Int) K = K es := by
  obtain ⟨es, e⟩ := enc_ptr d k
  refine ⟨es, e, fun K => ?_⟩
  have hi := (List.getElem?_eq_some_iff.1 h).1
  unfold kidAt
  rw [cond_t (by rw [decide_eq_true (by omega), decide_eq_true (by omega)]; rfl), Int.toNat_natCast, Nat.mul_one, List.head?_take, if_neg (by decide), List.head?_drop, List.getElem?_map, h, Option.map_some, e]
  rfl
theorem replace_F {R : Type} {n i j m : Nat} {c vs : List PV} {nl : Option Bool} (hl : c.length = n) (hij : i < j) (hj : j ≤ n) (hm : 0 < m) (hb : n + m ≤ 1000000) (K : Nat → List PV → Option R) :
    p_replace.F 1 n c [.int .i64 (i : Int), .int .i64 (j : Int), .sl nl 1 m vs] K = K (i + m + (n - j)) (c.take i ++ vs ++ c.drop j) := by
  show (bif decide ((1 : Nat) = 1) && (decide (c.length = n) && (decide (0 ≤ (i : Int)) && (decide ((i : Int) < (j : Int)) && (decide ((j : Int) ≤ (n : Int)) && (decide (0 < m) && decide (n + m ≤ 1000000)))))) then _ else none) = _
  rw [decide_eq_true rfl, decide_eq_true hl, decide_eq_true (show (0 : Int) ≤ (i : Int) by omega), decide_eq_true (show (i : Int) < (j : Int) by omega), decide_eq_true (show (j : Int) ≤ (n : Int) by omega), decide_eq_true hm, decide_eq_true hb]
  rfl
theorem endC_eq {n : Nat} {c : List PV} (h : c.length = n) (K : PV → Option PV) : endC n c K = K (.sl (some false) 1 n c) := by
  unfold endC
  rw [cond_t (decide_eq_true (by omega)), List.take_of_length_le (by omega)]
theorem md_eq {d : Nat} (ks : List (TrD PV d)) (i : Nat) (hg : gdM d ks (i : Int) = true) (hv : ∀ k ∈ ks, ∀ p ∈ cD d k, vok p.2 = true) :
    prun (enMd gZ (gJ d)) ⟨[], []⟩ 0 false Try.f90 [.sl (some false) 1 ks.length (ks.map (enc d)), .int .i64 (i : Int)] = some (.sl (some false) 1 (encs d (mendD ks i)).1 (encs d (mendD ks i)).2) := by
  unfold gdM at hg
  simp only [Bool.and_eq_true, decide_eq_true_eq, List.all_eq_true] at hg
  obtain ⟨_, g2, g3, g4, g5⟩ := hg
  have hi : i < ks.length := by omega
  have hki := List.getElem?_eq_getElem hi
  obtain ⟨es, e1, q1⟩ := kidAt_enc (R := PV) hki
  have self : some (PV.sl (some false) 1 ks.length (ks.map (enc d))) = some (.sl (some false) 1 (encs d ks).1 (encs d ks).2) := rfl
  rw [md_raw, cond_t (by rw [decide_eq_false (by omega)]; rfl), q1, gZ_enc e1, Option.bind_some]
  unfold mendD
  simp only [hki]
  by_cases h4 : 4 ≤ szD d ks[i]
  · rw [cond_f (by rw [decide_eq_true (by omega)]; rfl), self, if_pos (by simp [h4])]
  · rw [cond_t (by rw [decide_eq_false (by omega)]; rfl)]
    by_cases hone : ks.length = 1
    · rw [cond_t (by rw [hone]; rfl), self, if_pos (by simp [hone])]
    · rw [cond_f (by rw [beq_eq_false_iff_ne]; omega), if_neg (c := (decide (4 ≤ szD d ks[i]) || ks.length == 1) = true) (by simp [hone]; omega)]
      have hj : (if 0 > IntKind.i64.wrap ((i : Int) - 1) then 0 else IntKind.i64.wrap ((i : Int) - 1)) = ((i - 1 : Nat) : Int) := by
        rw [wrapI_of (by omega) (by omega)]
        split <;> omega
      rw [hj]
      have h1 : i - 1 < ks.length := by omega
      have h2 : i - 1 + 1 < ks.length := by omega
      have ka := List.getElem?_eq_getElem h1
      have kb := List.getElem?_eq_getElem h2
      obtain ⟨a, ea, qa⟩ := kidAt_enc (R := PV) ka
      obtain ⟨b, eb, qb⟩ := kidAt_enc (R := PV) kb
      rw [ka, kb]
      have ga := g4 _ (List.getElem_mem h1)
      have gb := g4 _ (List.getElem_mem h2)
      have hlen2 : (cD d ks[i - 1]).length + (cD d ks[i - 1 + 1]).length ≤ (ks.flatMap (cD d)).length := by
        have e := flat_split (d := d) ka
        have hd : ks.drop (i - 1 + 1) = ks[i - 1 + 1] :: ks.drop (i - 1 + 1 + 1) := List.drop_eq_getElem_cons h2
        rw [hd, List.flatMap_cons] at e
        rw [e]
        simp only [List.length_append]
        omega
      have hgj : gdJ d ks[i - 1] ks[i - 1 + 1] = true := by
        unfold gdJ
        rw [decide_eq_true ga.1, decide_eq_true gb.1, decide_eq_true (by omega), ga.2.2, gb.2.2, decide_eq_true (by omega)]
        rfl
      have hjn := tJoin_enc ea eb hgj (hv _ (List.getElem_mem h1)) (hv _ (List.getElem_mem h2))
      have hjl : (joinD d ks[i - 1] ks[i - 1 + 1]).length = 1 ∨ (joinD d ks[i - 1] ks[i - 1 + 1]).length = 2 := by
        cases d with
        | zero => exact splitL_num _
        | succ d => exact splitL_num _
      unfold mdK
      rw [cond_t (by rw [decide_eq_true (by omega), decide_eq_true (by omega)]; rfl), qa, wrapI_of (x := ((i - 1 : Nat) : Int) + 1) (by omega) (by omega), show ((i - 1 : Nat) : Int) + 1 = ((i - 1 + 1 : Nat) : Int) by omega, qb, hjn, Option.bind_some, wrapI_of (x := ((i - 1 : Nat) : Int) + 2) (by omega) (by omega), show ((i - 1 : Nat) : Int) + 2 = ((i - 1 + 2 : Nat) : Int) by omega]
      have hl : (encs d (joinD d ks[i - 1] ks[i - 1 + 1])).1 = (joinD d ks[i - 1] ks[i - 1 + 1]).length := rfl
      rw [replace_F (by rw [List.length_map]) (by omega) (by omega) (by rw [hl]; omega) (by rw [hl]; omega), endC_eq]
      · unfold encs
        simp only [List.map_append, List.map_take, List.map_drop, List.length_append, List.length_take, List.length_drop, hl]
        rw [Nat.min_eq_left (by omega)]
      · unfold encs
        simp only [List.length_append, List.length_take, List.length_drop, List.length_map]
        omega
theorem okl_md (d : Nat) : AllOK NGt Wt (lMd gZ (gJ d)) := allOK_cons ok_sizeT (allOK_cons (ok_join d) allOK_nil)
theorem okN_n : AllN NGt Wt lnN := allN_cons nok_clone_n allN_nil
theorem okC_n : AllC NGt Wt lcN := allC_cons cok_replace (allC_cons cok_delete_n allC_nil)
theorem ok_mend (d : Nat) : FOK NGt Wt 90 (tMend (gM d)) := by
  refine fokW wokt (okl_md d) allH_nil allI_nil okN_n okC_n [93] Try.func90 rfl (by decide) (tMend_nat _) rfl (h := ⟨[], []⟩) 0 ?_
  intro xs r' h
  simp only [tMend] at h
  split at h
  · rename_i n c i
    obtain ⟨r, hr, h⟩ := bind_some_inv h
    injection h with h
    subst h
    unfold gM at hr
    obtain ⟨ks, hk, hr⟩ := bind_some_inv hr
    obtain ⟨hg, hr⟩ := bif_inv hr
    injection hr with hr
    subst hr
    simp only [Bool.and_eq_true, decide_eq_true_eq] at hg
    obtain ⟨hn, hg⟩ := hg
    subst hn
    have e := mapO_map_inv (g := enc d) (fun a b hab => (dec_inv hab).1) hk
    have hv := mapO_all (P := fun t => ∀ p ∈ cD d t, vok p.2 = true) (fun a b hab => (dec_inv hab).2) hk
    have hi : (i.toNat : Int) = i := by
      unfold gdM at hg
      simp only [Bool.and_eq_true, decide_eq_true_eq] at hg
      omega
    rw [← hi] at hg ⊢
    rw [e]
    exact ⟨_, md_eq ks i.toNat hg hv, Wk.refl _⟩
  · cases h
end Go.Proofs.Ytmacjkiamejcnaa
