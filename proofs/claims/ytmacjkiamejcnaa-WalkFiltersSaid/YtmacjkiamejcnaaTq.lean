/-
  Values that say less; trees as pure values: how they are written and read; the keys' places.
-/
import Derived.Test.YtmacjkiamejcnaaTp
import Derived.Test.YtmacjkiamejcnaaTGa
set_option linter.unusedVariables false
set_option linter.unusedSimpArgs false
set_option maxRecDepth 100000
namespace Go.Proofs.Ytmacjkiamejcnaa
open Go.RowKit

/-! ## values that say less -/
mutual
def Wk : PV → PV → Prop
  | .sl nl sz n cs, .sl nl' sz' n' cs' => (nl' = none ∨ nl' = nl) ∧ sz' = sz ∧ n' = n ∧ WkL cs cs'
  | .eptr cs, .eptr cs' => WkL cs cs'
  | x, y => x = y
def WkL : List PV → List PV → Prop
  | [], [] => True
  | x :: xs, y :: ys => Wk x y ∧ WkL xs ys
  | _, _ => False
end
theorem WkL.length : ∀ {xs ys : List PV}, WkL xs ys → xs.length = ys.length
  | [], [], _ => rfl
  | [], _ :: _, h => by simp [WkL] at h
  | _ :: _, [], h => by simp [WkL] at h
  | x :: xs, y :: ys, h => by simp only [WkL] at h; rw [List.length_cons, List.length_cons, WkL.length h.2]
mutual
theorem Wk.rel {M : Mem} : ∀ (x y : PV) (v : Value), Wk x y → RelD M x v → RelD M y v
  | .sl nl sz n cs, .sl nl' sz' n' cs', v, h, hr => by
    simp only [Wk] at h
    obtain ⟨h1, rfl, rfl, h4⟩ := h
    simp only [RelD] at hr ⊢
    obtain ⟨A, c, vs, e, k1, k2, k3, k4, k5, k6, k7⟩ := hr
    refine ⟨A, c, vs, e, k1, k2, ?_, k4, ?_, WkL.rel cs cs' vs h4 k6, k7⟩
    · rcases h1 with rfl | rfl
      · intro b hb; cases hb
      · exact k3
    · rw [← h4.length]; exact k5
  | .eptr cs, .eptr cs', v, h, hr => by
    simp only [Wk] at h
    simp only [RelD] at hr ⊢
    obtain ⟨b, o, vs, e, k1, k2⟩ := hr
    exact ⟨b, o, vs, e, WkL.rel cs cs' vs h k1, k2⟩
  | .undef, y, v, h, hr => by simp only [Wk] at h; subst h; exact hr
  | .bool _, y, v, h, hr => by simp only [Wk] at h; subst h; exact hr
  | .int _ _, y, v, h, hr => by simp only [Wk] at h; subst h; exact hr
  | .str _, y, v, h, hr => by simp only [Wk] at h; subst h; exact hr
  | .agg _, y, v, h, hr => by simp only [Wk] at h; subst h; exact hr
  | .tuple _, y, v, h, hr => by simp only [Wk] at h; subst h; exact hr
  | .nilptr, y, v, h, hr => by simp only [Wk] at h; subst h; exact hr
  | .nptr, y, v, h, hr => by simp only [Wk] at h; subst h; exact hr
  | .nilIface, y, v, h, hr => by simp only [Wk] at h; subst h; exact hr
  | .iface _ _, y, v, h, hr => by simp only [Wk] at h; subst h; exact hr
  | .nilFunc, y, v, h, hr => by simp only [Wk] at h; subst h; exact hr
  | .ptr _ _, y, v, h, hr => by simp only [Wk] at h; subst h; exact hr
  | .clo _ _, y, v, h, hr => by simp only [Wk] at h; subst h; exact hr
  | .agp _, y, v, h, hr => by simp only [Wk] at h; subst h; exact hr
  | .tupp _, y, v, h, hr => by simp only [Wk] at h; subst h; exact hr
  | .yld, y, v, h, hr => by simp only [Wk] at h; subst h; exact hr
  | .optr _ _ _, y, v, h, hr => by simp only [Wk] at h; subst h; exact hr
  | .bsl _ _ _ _, y, v, h, hr => by simp only [Wk] at h; subst h; exact hr
  | .sl nl sz n cs, .undef, v, h, hr => by simp [Wk] at h
  | .sl nl sz n cs, .bool _, v, h, hr => by simp [Wk] at h
  | .sl nl sz n cs, .int _ _, v, h, hr => by simp [Wk] at h
  | .sl nl sz n cs, .str _, v, h, hr => by simp [Wk] at h
  | .sl nl sz n cs, .agg _, v, h, hr => by simp [Wk] at h
  | .sl nl sz n cs, .tuple _, v, h, hr => by simp [Wk] at h
  | .sl nl sz n cs, .nilptr, v, h, hr => by simp [Wk] at h
  | .sl nl sz n cs, .nptr, v, h, hr => by simp [Wk] at h
  | .sl nl sz n cs, .nilIface, v, h, hr => by simp [Wk] at h
  | .sl nl sz n cs, .iface _ _, v, h, hr => by simp [Wk] at h
  | .sl nl sz n cs, .nilFunc, v, h, hr => by simp [Wk] at h
  | .sl nl sz n cs, .ptr _ _, v, h, hr => by simp [Wk] at h
  | .sl nl sz n cs, .eptr _, v, h, hr => by simp [Wk] at h
  | .sl nl sz n cs, .clo _ _, v, h, hr => by simp [Wk] at h
  | .sl nl sz n cs, .agp _, v, h, hr => by simp [Wk] at h
  | .sl nl sz n cs, .tupp _, v, h, hr => by simp [Wk] at h
  | .sl nl sz n cs, .yld, v, h, hr => by simp [Wk] at h
  | .sl nl sz n cs, .optr _ _ _, v, h, hr => by simp [Wk] at h
  | .sl nl sz n cs, .bsl _ _ _ _, v, h, hr => by simp [Wk] at h
  | .eptr cs, .undef, v, h, hr => by simp [Wk] at h
  | .eptr cs, .bool _, v, h, hr => by simp [Wk] at h
  | .eptr cs, .int _ _, v, h, hr => by simp [Wk] at h
  | .eptr cs, .str _, v, h, hr => by simp [Wk] at h
  | .eptr cs, .agg _, v, h, hr => by simp [Wk] at h
  | .eptr cs, .tuple _, v, h, hr => by simp [Wk] at h
  | .eptr cs, .nilptr, v, h, hr => by simp [Wk] at h
  | .eptr cs, .nptr, v, h, hr => by simp [Wk] at h
  | .eptr cs, .nilIface, v, h, hr => by simp [Wk] at h
  | .eptr cs, .iface _ _, v, h, hr => by simp [Wk] at h
  | .eptr cs, .nilFunc, v, h, hr => by simp [Wk] at h
  | .eptr cs, .ptr _ _, v, h, hr => by simp [Wk] at h
  | .eptr cs, .sl _ _ _ _, v, h, hr => by simp [Wk] at h
  | .eptr cs, .clo _ _, v, h, hr => by simp [Wk] at h
  | .eptr cs, .agp _, v, h, hr => by simp [Wk] at h
  | .eptr cs, .tupp _, v, h, hr => by simp [Wk] at h
  | .eptr cs, .yld, v, h, hr => by simp [Wk] at h
  | .eptr cs, .optr _ _ _, v, h, hr => by simp [Wk] at h
  | .eptr cs, .bsl _ _ _ _, v, h, hr => by simp [Wk] at h
theorem WkL.rel {M : Mem} : ∀ (xs ys : List PV) (vs : List Value), WkL xs ys → RelL M xs vs → RelL M ys vs
  | [], [], vs, _, hr => hr
  | [], _ :: _, vs, h, _ => by simp [WkL] at h
  | _ :: _, [], vs, h, _ => by simp [WkL] at h
  | x :: xs, y :: ys, vs, h, hr => by
    simp only [WkL] at h
    simp only [RelL] at hr ⊢
    obtain ⟨u, us, e, k1, k2, k3⟩ := hr
    exact ⟨u, us, e, k1, Wk.rel x y u h.1 k2, WkL.rel xs ys us h.2 k3⟩
end
mutual
theorem Wk.refl : ∀ (x : PV), Wk x x
  | .sl nl sz n cs => by simp only [Wk]; exact ⟨.inr trivial, trivial, trivial, WkL.refl cs⟩
  | .eptr cs => by simp only [Wk]; exact WkL.refl cs
  | .undef | .bool _ | .int _ _ | .str _ | .agg _ | .tuple _ | .nilptr | .nptr | .nilIface | .iface _ _ | .nilFunc | .ptr _ _ | .clo _ _ | .agp _ | .tupp _ | .yld | .optr _ _ _ | .bsl _ _ _ _ => by simp only [Wk]
theorem WkL.refl : ∀ (xs : List PV), WkL xs xs
  | [] => by simp only [WkL]
  | x :: xs => by simp only [WkL]; exact ⟨Wk.refl x, WkL.refl xs⟩
end
theorem fok_weaken {NG : Nat} {W : World → Prop} {f : FuncId} {p p' : PFn} (h : FOK NG W f p) (hn : p'.nat) (ho : p'.own = false)
    (hF : ∀ xs r', p'.F xs (R := PV) some = some r' → ∃ r, p.F xs (R := PV) some = some r ∧ Wk r r') : FOK NG W f p' where
  nat := hn
  call := by
    intro M xs vs r' hW hng hg hr hF'
    obtain ⟨r, h1, h2⟩ := hF xs r' hF'
    have hc := h.call M xs vs r hW hng hg hr h1
    rcases hc with ⟨v, w', k1, U', k2, k3, k4⟩ | ⟨k1, k2⟩
    · exact .inl ⟨v, w', k1, U', k2, Wk.rel _ _ _ h2 k3, fun e => by rw [ho] at e; cases e⟩
    · refine .inr ⟨k1, k2.mono ?_⟩
      rintro e w' ⟨v, rfl, U', q2, q3, q4⟩
      exact ⟨v, rfl, U', q2, Wk.rel _ _ _ h2 q3, fun e => by rw [ho] at e; cases e⟩

/-! ## trees as pure values -/
def vok : PV → Bool
  | .int .i64 _ => true
  | _ => false
def ofL0 (l : List (Ky × PV)) : TrD PV 0 := l
def ofL {d : Nat} (ks : List (TrD PV d)) : TrD PV (d + 1) := ks
def enc : (d : Nat) → TrD PV d → PV
  | 0, l => .eptr [.sl none 1 (as0 l).length ((as0 l).map fun p => .str p.1), .sl none 1 (as0 l).length ((as0 l).map (·.2)), .sl (some true) 1 0 [], .int .i64 ((as0 l).length : Int)]
  | d + 1, ks => .eptr [.sl none 1 (asL ks).length ((asL ks).map fun k => .str (lkD d k)), .sl (some true) 1 0 [], .sl (some false) 1 (asL ks).length ((asL ks).map (enc d)), .int .i64 ((cD (d + 1) ks).length : Int)]
theorem enc_zero (l : List (Ky × PV)) : enc 0 (ofL0 l) = .eptr [.sl none 1 l.length (l.map fun p => .str p.1), .sl none 1 l.length (l.map (·.2)), .sl (some true) 1 0 [], .int .i64 (l.length : Int)] := rfl
theorem enc_succ {d : Nat} (ks : List (TrD PV d)) : enc (d + 1) (ofL ks) = .eptr [.sl none 1 ks.length (ks.map fun k => .str (lkD d k)), .sl (some true) 1 0 [], .sl (some false) 1 ks.length (ks.map (enc d)), .int .i64 ((ks.flatMap (cD d)).length : Int)] := rfl
def dec0 : PV → Option (TrD PV 0)
  | .eptr [.sl none 1 n kc, .sl none 1 m vc, .sl (some true) 1 0 [], .int .i64 c] =>
    bif decide (kc.length = n) && (decide (vc.length = n) && (decide (m = n) && (decide (c = (n : Int)) && (kc.all isStr && vc.all vok)))) then some (ofL0 ((kc.map strOf).zip vc)) else none
  | _ => none
def decS (d : Nat) (f : PV → Option (TrD PV d)) : PV → Option (TrD PV (d + 1))
  | .eptr [.sl none 1 n kc, .sl (some true) 1 0 [], .sl (some false) 1 m ic, .int .i64 c] =>
    (mapO f ic).bind fun ks =>
      bif decide (kc.length = n) && (decide (ic.length = n) && (decide (m = n) && (decide (c = ((List.flatMap (cD d) ks).length : Int)) && (kc.all isStr && decide (kc.map strOf = ks.map (lkD d)))))) then some (ofL ks) else none
  | _ => none
def dec : (d : Nat) → PV → Option (TrD PV d)
  | 0 => dec0
  | d + 1 => decS d (dec d)
theorem strs_inv : ∀ {kc : List PV}, kc.all isStr = true → kc = (kc.map strOf).map .str
  | [], _ => rfl
  | x :: kc, h => by
    simp only [List.all_cons, Bool.and_eq_true] at h
    rw [List.map_cons, List.map_cons, ← strs_inv h.2]
    congr 1
    cases x <;> simp [isStr] at h <;> rfl
theorem mapO_map_inv {α γ : Type} {f : α → Option γ} {g : γ → α} (hg : ∀ a b, f a = some b → a = g b) : ∀ {l : List α} {r : List γ}, mapO f l = some r → l = r.map g
  | [], r, h => by simp only [mapO] at h; injection h with h; subst h; rfl
  | x :: l, r, h => by
    simp only [mapO] at h
    split at h
    · rename_i y hy
      split at h
      · rename_i ys hys
        injection h with h
        subst h
        rw [List.map_cons, ← mapO_map_inv hg hys, ← hg _ _ hy]
      · cases h
    · cases h
theorem mapO_all {α γ : Type} {f : α → Option γ} {P : γ → Prop} (hg : ∀ a b, f a = some b → P b) : ∀ {l : List α} {r : List γ}, mapO f l = some r → ∀ y ∈ r, P y
  | [], r, h => by simp only [mapO] at h; injection h with h; subst h; simp
  | x :: l, r, h => by
    simp only [mapO] at h
    split at h
    · rename_i y hy
      split at h
      · rename_i ys hys
        injection h with h
        subst h
        intro z hz
        rcases List.mem_cons.1 hz with rfl | hz
        · exact hg _ _ hy
        · exact mapO_all hg hys z hz
      · cases h
    · cases h
theorem zip_fst {α γ : Type} : ∀ {a : List α} {b : List γ}, a.length = b.length → (a.zip b).map (·.1) = a
  | [], [], _ => rfl
  | x :: a, [], h => by simp at h
  | [], y :: b, h => by simp at h
  | x :: a, y :: b, h => by rw [List.zip_cons_cons, List.map_cons, zip_fst (by simpa using h)]
theorem zip_snd {α γ : Type} : ∀ {a : List α} {b : List γ}, a.length = b.length → (a.zip b).map (·.2) = b
  | [], [], _ => rfl
  | x :: a, [], h => by simp at h
  | [], y :: b, h => by simp at h
  | x :: a, y :: b, h => by rw [List.zip_cons_cons, List.map_cons, zip_snd (by simpa using h)]
theorem dec_inv : ∀ {d : Nat} {x : PV} {t : TrD PV d}, dec d x = some t → x = enc d t ∧ ∀ p ∈ cD d t, vok p.2 = true
  | 0, x, t, h => by
    simp only [dec] at h
    unfold dec0 at h
    split at h
    · rename_i n kc m vc c
      rcases hb : (decide (kc.length = n) && (decide (vc.length = n) && (decide (m = n) && (decide (c = (n : Int)) && (kc.all isStr && vc.all vok))))) with _ | _ <;> rw [hb] at h
      · cases h
      simp only [Bool.and_eq_true, decide_eq_true_eq] at hb
      obtain ⟨b1, b2, b3, b4, b5, b6⟩ := hb
      simp only [cond_true] at h
      injection h with h
      subst h
      subst b3 b4
      have hl : (kc.map strOf).length = vc.length := by rw [List.length_map, b1, b2]
      refine ⟨?_, ?_⟩
      · have e1 : ((kc.map strOf).zip vc).length = m := by rw [List.length_zip, List.length_map]; omega
        have e2 : (((kc.map strOf).zip vc).map fun p => PV.str p.1) = kc := by
          conv => rhs; rw [strs_inv b5, ← zip_fst hl]
          rw [List.map_map]
          rfl
        rw [enc_zero, e1, e2, zip_snd hl]
      · intro p hp
        have : p.2 ∈ ((kc.map strOf).zip vc).map (·.2) := List.mem_map.2 ⟨p, hp, rfl⟩
        rw [zip_snd hl] at this
        exact List.all_eq_true.1 b6 _ this
    · cases h
  | d + 1, x, t, h => by
    simp only [dec] at h
    unfold decS at h
    split at h
    · rename_i n kc m ic c
      obtain ⟨ks, hk, h⟩ := bind_some_inv h
      rcases hb : (decide (kc.length = n) && (decide (ic.length = n) && (decide (m = n) && (decide (c = ((List.flatMap (cD d) ks).length : Int)) && (kc.all isStr && decide (kc.map strOf = ks.map (lkD d))))))) with _ | _ <;> rw [hb] at h
      · cases h
      simp only [Bool.and_eq_true, decide_eq_true_eq] at hb
      obtain ⟨b1, b2, b3, b4, b5, b6⟩ := hb
      simp only [cond_true] at h
      injection h with h
      subst h
      subst b3 b4
      have e1 := mapO_map_inv (g := enc d) (fun a b hab => (dec_inv hab).1) hk
      refine ⟨?_, ?_⟩
      · have e2 : ks.length = m := by
          have := congrArg List.length e1
          rw [List.length_map] at this
          exact this.symm.trans b2
        have e3 : (ks.map fun k => PV.str (lkD d k)) = kc := by
          conv => rhs; rw [strs_inv b5, b6]
          rw [List.map_map]
          rfl
        rw [enc_succ, e2, e3, ← e1]
      · intro p hp
        obtain ⟨k, hk1, hk2⟩ := List.mem_flatMap.1 hp
        exact mapO_all (P := fun t => ∀ p ∈ cD d t, vok p.2 = true) (fun a b hab => (dec_inv hab).2) hk k hk1 p hk2
    · cases h
theorem mapO_map {α γ : Type} {f : α → Option γ} {g : γ → α} : ∀ {l : List γ}, (∀ x ∈ l, f (g x) = some x) → mapO f (l.map g) = some l
  | [], _ => rfl
  | x :: l, h => by
    rw [List.map_cons, mapO, h x List.mem_cons_self, mapO_map fun y hy => h y (List.mem_cons_of_mem _ hy)]
theorem strs_all : ∀ (l : List Ky), (l.map PV.str).all isStr = true
  | [] => rfl
  | x :: l => by rw [List.map_cons, List.all_cons, strs_all l]; rfl
theorem strs_of : ∀ (l : List Ky), (l.map PV.str).map strOf = l
  | [] => rfl
  | x :: l => by rw [List.map_cons, List.map_cons, strs_of l]; rfl
theorem zip_self {α γ : Type} : ∀ (l : List (α × γ)), (l.map (·.1)).zip (l.map (·.2)) = l
  | [] => rfl
  | x :: l => by rw [List.map_cons, List.map_cons, List.zip_cons_cons, zip_self l]
theorem dec_enc0 (l : List (Ky × PV)) (h : ∀ p ∈ l, vok p.2 = true) : dec0 (enc 0 (ofL0 l)) = some (ofL0 l) := by
  rw [enc_zero]
  unfold dec0
  have e : (l.map fun p => PV.str p.1) = (l.map (·.1)).map PV.str := by rw [List.map_map]; rfl
  have h2 : (l.map (·.2)).all vok = true := by
    rw [List.all_map, List.all_eq_true]
    exact h
  simp only [e, strs_all, strs_of, h2, List.length_map, zip_self, decide_true, Bool.and_self, cond_true]
theorem dec_encS {d : Nat} (ks : List (TrD PV d)) (h : mapO (dec d) (ks.map (enc d)) = some ks) : decS d (dec d) (enc (d + 1) (ofL ks)) = some (ofL ks) := by
  rw [enc_succ]
  unfold decS
  have e : (ks.map fun k => PV.str (lkD d k)) = (ks.map (lkD d)).map PV.str := by rw [List.map_map]; rfl
  simp only [e, h, strs_all, strs_of, List.length_map, Option.bind_some, decide_true, Bool.and_self, cond_true]
theorem dec_enc : ∀ {d : Nat} {t : TrD PV d}, (∀ p ∈ cD d t, vok p.2 = true) → dec d (enc d t) = some t
  | 0, l, h => dec_enc0 l h
  | d + 1, ks, h => dec_encS ks (mapO_map fun k hk => dec_enc fun p hp => h p (List.mem_flatMap.2 ⟨k, hk, hp⟩))
/-- the depth, along the first kids -/
def depF : Nat → PV → Nat
  | f + 1, .eptr [_, _, .sl (some false) _ _ (k :: _), _] => depF f k + 1
  | _, _ => 0
theorem depF_enc : ∀ {m d : Nat} {t : TrD PV d} {f : Nat}, okD m d t → 0 < m → d < f → depF f (enc d t) = d
  | m, 0, l, f + 1, h, _, _ => rfl
  | m, d + 1, ks, f + 1, h, hm, hf => by
    obtain ⟨h1, h2⟩ := h
    have e : ∃ k r, (asL ks) = k :: r := by
      cases hks : asL ks with
      | nil => rw [hks] at h1; simp at h1; omega
      | cons k r => exact ⟨k, r, rfl⟩
    obtain ⟨k, r, e⟩ := e
    have ih := depF_enc (f := f) (h2 k (by rw [e]; exact List.mem_cons_self)) (by omega) (by omega)
    unfold enc
    rw [e, List.map_cons, List.map_cons]
    show depF f (enc d k) + 1 = d + 1
    rw [ih]

/-! ## places -/
theorem strAt_str {l : List Ky} {t : Nat} (h : t < l.length) : strAt (l.map PV.str) t = l[t] := by
  unfold strAt
  rw [List.getD_eq_getElem?_getD, List.getElem?_map, List.getElem?_eq_getElem h]
  rfl
def SrtK (l : List Ky) : Prop := l.Pairwise fun a b => Op.bytesLess a b = true
theorem Srt.keys {β : Type} {l : List (Ky × β)} (h : Srt l) : SrtK (l.map (·.1)) := List.pairwise_map.2 h
/-- so many keys are below x -/
def plN (keys : List Ky) (x : Ky) : Nat := (keys.takeWhile fun a => Op.bytesLess a x).length
theorem plN_le (x : Ky) (l : List Ky) : plN l x ≤ l.length := List.Sublist.length_le (List.takeWhile_sublist _)
theorem tw_lt {α : Type} {p : α → Bool} : ∀ {l : List α} {j : Nat} {a : α}, j < (l.takeWhile p).length → l[j]? = some a → p a = true
  | [], j, a, h, _ => by simp at h
  | b :: l, j, a, h, ha => by
    rw [List.takeWhile_cons] at h
    split at h
    · rename_i hb
      cases j with
      | zero => simp at ha; subst ha; exact hb
      | succ j => exact tw_lt (l := l) (j := j) (by simpa using h) (by simpa using ha)
    · simp at h
theorem tw_at {α : Type} {p : α → Bool} : ∀ {l : List α} {a : α}, l[(l.takeWhile p).length]? = some a → p a = false
  | [], a, h => by simp at h
  | b :: l, a, h => by
    rw [List.takeWhile_cons] at h
    split at h
    · exact tw_at (l := l) (by simpa using h)
    · rename_i hb
      simp at h
      subst h
      simpa using hb
theorem bs_tw {l : List Ky} (p : Ky → Bool) (hp : ∀ (i j : Nat) (a b : Ky), i < j → l[i]? = some a → l[j]? = some b → p b = true → p a = true) (q : Nat → Bool) (hq : ∀ t (h : t < l.length), q t = p l[t]) : Lib.bsGo q l.length 0 l.length = (l.takeWhile p).length := by
  have hle : (l.takeWhile p).length ≤ l.length := List.Sublist.length_le (List.takeWhile_sublist _)
  -- beyond the end the predicate does not matter
  have key : ∀ (f lo hi : Nat), hi - lo ≤ f → lo ≤ (l.takeWhile p).length → (l.takeWhile p).length ≤ hi → hi ≤ l.length → Lib.bsGo q f lo hi = (l.takeWhile p).length := by
    intro f lo hi h1 h2 h3 h4
    have this : Lib.bsGo q f lo hi = Lib.bsGo (fun t : Nat => decide (t < (l.takeWhile p).length)) f lo hi := by
      clear h1 h2 h3
      induction f generalizing lo hi with
      | zero => rfl
      | succ f ih =>
        unfold Lib.bsGo
        by_cases hlh : lo < hi
        · have hm : (lo + hi) / 2 < l.length := by omega
          have e : q ((lo + hi) / 2) = decide ((lo + hi) / 2 < (l.takeWhile p).length) := by
            rw [hq _ hm]
            by_cases hc : (lo + hi) / 2 < (l.takeWhile p).length
            · rw [decide_eq_true hc]; exact tw_lt hc (List.getElem?_eq_getElem hm)
            · rw [decide_eq_false hc]
              rcases hb : p l[(lo + hi) / 2] with _ | _
              · rfl
              · exfalso
                have ht : (l.takeWhile p).length < l.length := by omega
                have h0 := tw_at (p := p) (List.getElem?_eq_getElem ht)
                by_cases he : (l.takeWhile p).length = (lo + hi) / 2
                · simp only [he] at h0
                  rw [h0] at hb; cases hb
                · have := hp _ _ _ _ (by omega) (List.getElem?_eq_getElem ht) (List.getElem?_eq_getElem hm) hb
                  rw [h0] at this; cases this
          simp only [e]
          rw [ih _ _ h4, ih _ _ (by omega)]
        · simp only [hlh, if_false]
    rw [this]
    exact Lib.bsGo_spec (fun t : Nat => decide (t < (l.takeWhile p).length)) _ (fun t ht => decide_eq_true ht) (fun t ht => decide_eq_false (by omega)) f lo hi h1 h2 h3
  exact key l.length 0 l.length (by omega) (by omega) hle (Nat.le_refl _)
theorem SrtK.at {l : List Ky} (h : SrtK l) {i j : Nat} {a b : Ky} (hij : i < j) (ha : l[i]? = some a) (hb : l[j]? = some b) : Op.bytesLess a b = true := by
  obtain ⟨hi, rfl⟩ := List.getElem?_eq_some_iff.1 ha
  obtain ⟨hj, rfl⟩ := List.getElem?_eq_some_iff.1 hb
  exact List.pairwise_iff_getElem.1 h i j hi hj hij
theorem placeI_eq {l : List Ky} (h : SrtK l) (x : Ky) : placeI (l.map .str) x = plN l x := by
  unfold placeI plN
  rw [List.length_map]
  exact bs_tw (fun a => Op.bytesLess a x) (fun i j a b hij ha hb hp => kl_trans (h.at hij ha hb) hp) _ (fun t ht => by rw [strAt_str ht])
theorem kidI_eq {l : List Ky} (h : SrtK l) (x : Ky) : kidI (l.map .str) x = kcN l x := by
  unfold kidI kcN
  rw [List.length_map]
  refine bs_tw (fun a => !Op.bytesLess x a) (fun i j a b hij ha hb hp => ?_) _ (fun t ht => ?_)
  · have h1 := h.at hij ha hb
    simp only [Bool.not_eq_true'] at hp ⊢
    exact kl_asym (kl_lt_le h1 hp)
  · rw [strAt_str ht]
    rcases h1 : Op.bytesLess l[t] x with _ | _
    · rcases h2 : Op.bytesLess x l[t] with _ | _
      · rw [kl_tri h1 h2]; simp
      · have : (l[t] == x) = false := by simpa using (kl_ne h2).symm
        rw [this]; rfl
    · rw [kl_asym h1]; rfl
/-- a leaf, parted at the place of a key -/
theorem leaf_split {β : Type} {l : List (Ky × β)} (h : Srt l) (x : Ky) :
    Low x (l.take (plN (l.map (·.1)) x)) ∧ (hasK x l = true → ∃ v, l[plN (l.map (·.1)) x]? = some (x, v) ∧ High x (l.drop (plN (l.map (·.1)) x + 1))) ∧ (hasK x l = false → High x (l.drop (plN (l.map (·.1)) x))) ∧
      (hasK x l = (decide (plN (l.map (·.1)) x < l.length) && ((l.map (·.1)).getD (plN (l.map (·.1)) x) [] == x))) := by
  have hlow : Low x (l.take (plN (l.map (·.1)) x)) := by
    intro p hp
    obtain ⟨j, hj, rfl⟩ := List.getElem_of_mem hp
    rw [List.length_take] at hj
    rw [List.getElem_take]
    exact tw_lt (p := fun a => Op.bytesLess a x) (l := l.map (·.1)) (j := j) (show j < plN _ _ by omega) (by rw [List.getElem?_map, List.getElem?_eq_getElem (by omega)]; rfl)
  have hge : ∀ p ∈ l.drop (plN (l.map (·.1)) x), Op.bytesLess p.1 x = false := by
    intro p hp
    have hlt : plN (l.map (·.1)) x < l.length := by
      have := List.length_pos_of_mem hp
      rw [List.length_drop] at this
      omega
    have h0 : Op.bytesLess (l[plN (l.map (·.1)) x]).1 x = false := tw_at (p := fun a => Op.bytesLess a x) (l := l.map (·.1)) (by
      show (l.map (·.1))[plN (l.map (·.1)) x]? = _
      rw [List.getElem?_map, List.getElem?_eq_getElem hlt]; rfl)
    rw [List.drop_eq_getElem_cons hlt] at hp
    rcases List.mem_cons.1 hp with rfl | hp
    · exact h0
    · have h2 := h
      rw [← List.take_append_drop (plN (l.map (·.1)) x) l, List.drop_eq_getElem_cons hlt] at h2
      have h3 := (List.pairwise_cons.1 h2.right).1 p hp
      rcases hb : Op.bytesLess p.1 x with _ | _
      · rfl
      · rw [kl_trans h3 hb] at h0; cases h0
  have hall : hasK x l = hasK x (l.drop (plN (l.map (·.1)) x)) := by
    conv => lhs; rw [← List.take_append_drop (plN (l.map (·.1)) x) l]
    have := low_has hlow
    unfold hasK at this ⊢
    rw [List.any_append, this, Bool.false_or]
  by_cases hlt : plN (l.map (·.1)) x < l.length
  · have hg : (l.map (·.1)).getD (plN (l.map (·.1)) x) [] = (l[plN (l.map (·.1)) x]).1 := by
      rw [List.getD_eq_getElem?_getD, List.getElem?_map, List.getElem?_eq_getElem hlt]; rfl
    have h2 := h
    rw [← List.take_append_drop (plN (l.map (·.1)) x) l, List.drop_eq_getElem_cons hlt] at h2
    have h3 := (List.pairwise_cons.1 h2.right).1
    by_cases he : (l[plN (l.map (·.1)) x]).1 = x
    · have hh : High x (l.drop (plN (l.map (·.1)) x + 1)) := fun p hp => by rw [← he]; exact h3 p hp
      have ht : hasK x l = true := by
        rw [hall, List.drop_eq_getElem_cons hlt]
        unfold hasK
        rw [List.any_cons, he]
        simp
      refine ⟨hlow, fun _ => ⟨(l[plN (l.map (·.1)) x]).2, ?_, hh⟩, (fun e => by rw [ht] at e; cases e), ?_⟩
      · rw [List.getElem?_eq_getElem hlt]
        congr 1
        exact Prod.ext he rfl
      · rw [ht, hg, he, decide_eq_true hlt]
        simp
    · have hgt : Op.bytesLess x (l[plN (l.map (·.1)) x]).1 = true := by
        have := hge _ (by rw [List.drop_eq_getElem_cons hlt]; exact List.mem_cons_self)
        rcases hb : Op.bytesLess x (l[plN (l.map (·.1)) x]).1 with _ | _
        · exact absurd (kl_tri this hb) he
        · exact hb
      have hh : High x (l.drop (plN (l.map (·.1)) x)) := by
        intro p hp
        rw [List.drop_eq_getElem_cons hlt] at hp
        rcases List.mem_cons.1 hp with rfl | hp
        · exact hgt
        · exact kl_trans hgt (h3 p hp)
      have hf : hasK x l = false := by rw [hall]; exact high_has hh
      refine ⟨hlow, (fun e => by rw [hf] at e; cases e), fun _ => hh, ?_⟩
      rw [hf, hg]
      have : ((l[plN (l.map (·.1)) x]).1 == x) = false := by simpa using he
      rw [this, Bool.and_false]
  · have hnil : l.drop (plN (l.map (·.1)) x) = [] := List.drop_eq_nil_of_le (by omega)
    have hf : hasK x l = false := by rw [hall, hnil]; rfl
    refine ⟨hlow, (fun e => by rw [hf] at e; cases e), (fun _ => by rw [hnil]; intro p hp; cases hp), ?_⟩
    rw [hf, decide_eq_false hlt]
    rfl
end Go.Proofs.Ytmacjkiamejcnaa
