/-
  forth, back and the functions that From and Back return: their contracts.
-/
import Derived.Test.YtmacjkiamejcnaaUb
set_option linter.unusedVariables false
set_option linter.unusedSimpArgs false
set_option maxRecDepth 100000
namespace Go.Proofs.Ytmacjkiamejcnaa
open Go.RowKit
theorem iok_none {NG : Nat} {W : World → Prop} {f : FuncId} {p : IFn} (hn : p.nat) (h : ∀ bs o xs y r, p.F bs o xs y (R := List (List PV) × Out × PV) (fun b o v => some (b, o, v)) ≠ some r) : IOK NG W f p where
  nat := hn
  call := by
    intro X y bs o xs vs bs' o' r f0 _ _ _ _ _ _ _ _ _ _ _ hF
    exact absurd hF (h bs o xs y (bs', o', r))
theorem walk_none (f : FuncId) : IOK NGt Wt f (tWalk fun _ _ => none) := iok_none (tWalk_nat _) (by
  intro bs o xs y r h
  simp only [tWalk] at h
  split at h
  · unfold callW at h
    obtain ⟨_, h⟩ := bif_inv h
    cases h
  · cases h)
def gFo (d : Nat) (cs : List PV) (s : Ky) : Option (List (Ky × PV)) := (dec d (.eptr cs)).bind fun t => bif gdP d t then some (fromK s (cD d t)) else none
def gBa (d : Nat) (cs : List PV) (s : Ky) : Option (List (Ky × PV)) := (dec d (.eptr cs)).bind fun t => bif gdP d t then some (backK s (cD d t)) else none
theorem okl_fo : AllOK NGt Wt (lFo gLf gPl gKd) := allOK_cons ok_leafT (allOK_cons ok_placeT (allOK_cons ok_kidT allOK_nil))
theorem ok_enFo {gf gb : List PV → Ky → Option (List (Ky × PV))} (hf : IOK NGt Wt 61 (tWalk gf)) (hb : IOK NGt Wt 76 (tWalk gb)) : EnvOK (enFo gLf gPl gKd gf gb) NGt Wt :=
  env_okR (env_okA wokt okl_fo allH_nil (allI_cons hf (allI_cons hb allI_nil)) allN_nil allC_nil) _
theorem flatMap_congr' {α γ : Type} {f g : α → List γ} : ∀ {l : List α}, (∀ x ∈ l, f x = g x) → l.flatMap f = l.flatMap g
  | [], _ => rfl
  | x :: l, h => by rw [List.flatMap_cons, List.flatMap_cons, h x List.mem_cons_self, flatMap_congr' fun y hy => h y (List.mem_cons_of_mem _ hy)]
theorem from_high {β : Type} {s : Ky} {l : List (Ky × β)} (h : High s l) : fromK s l = l := List.filter_eq_self.2 fun p hp => by simp [kl_asym (h p hp)]
theorem back_low {β : Type} {s : Ky} {l : List (Ky × β)} (h : Low s l) : backK s l = l.reverse := by
  unfold backK
  rw [List.filter_eq_self.2 fun p hp => by simp [kl_asym (h p hp)]]
theorem from_kids {d : Nat} {ks : List (TrD PV d)} {s : Ky} (h4 : ∀ k ∈ ks, okD 4 d k) (h0 : 0 < ks.length) (hs : Srt (ks.flatMap (cD d))) : fromK s (ks.flatMap (cD d)) = (ks.drop (kidN ks s)).flatMap fun k => fromK s (cD d k) := by
  obtain ⟨k, hk, hA, hB⟩ := kid_split (x := s) h4 h0 hs
  have hi := (List.getElem?_eq_some_iff.1 hk)
  rw [flat_split hk, from_mid _ hA hB, List.drop_eq_getElem_cons hi.1, hi.2, List.flatMap_cons]
  congr 1
  refine (flatMap_congr' fun x hx => ?_).symm
  exact from_high fun p hp => hB p (List.mem_flatMap.2 ⟨x, hx, hp⟩)
theorem flat_rev {α γ : Type} {f : α → List γ} : ∀ (l : List α), (l.flatMap f).reverse = l.reverse.flatMap fun x => (f x).reverse
  | [] => rfl
  | x :: l => by rw [List.flatMap_cons, List.reverse_append, flat_rev l, List.reverse_cons, List.flatMap_append, List.flatMap_singleton]
theorem back_kids {d : Nat} {ks : List (TrD PV d)} {s : Ky} (h4 : ∀ k ∈ ks, okD 4 d k) (h0 : 0 < ks.length) (hs : Srt (ks.flatMap (cD d))) : backK s (ks.flatMap (cD d)) = (ks.take (kidN ks s + 1)).reverse.flatMap fun k => backK s (cD d k) := by
  obtain ⟨k, hk, hA, hB⟩ := kid_split (x := s) h4 h0 hs
  rw [flat_split hk, back_mid _ hA hB, List.take_add_one, hk]
  simp only [Option.toList_some, List.reverse_append, List.reverse_cons, List.reverse_nil, List.nil_append, List.cons_append, List.flatMap_cons]
  congr 1
  rw [flat_rev]
  refine (flatMap_congr' fun x hx => ?_).symm
  exact back_low fun p hp => hA p (List.mem_flatMap.2 ⟨x, List.mem_reverse.1 hx, hp⟩)
theorem from_leaf {l : List (Ky × PV)} (h : Srt l) (s : Ky) : fromK s l = l.drop (plN (l.map (·.1)) s) := by
  obtain ⟨p1, p2, p3, _⟩ := leaf_split h s
  rcases hh : hasK s l with _ | _
  · conv => lhs; rw [← List.take_append_drop (plN (l.map (·.1)) s) l, ← List.append_nil (l.take _)]
    rw [from_mid [] p1 (p3 hh)]
    rfl
  · obtain ⟨v, q1, q2⟩ := p2 hh
    have hi := List.getElem?_eq_some_iff.1 q1
    conv => lhs; rw [take_get_drop q1]
    rw [from_mid _ p1 q2, List.drop_eq_getElem_cons hi.1, hi.2]
    simp [fromK, kl_irr]
theorem back_leaf {l : List (Ky × PV)} (h : Srt l) (s : Ky) : backK s l = (l.take (if hasK s l then plN (l.map (·.1)) s + 1 else plN (l.map (·.1)) s)).reverse := by
  obtain ⟨p1, p2, p3, _⟩ := leaf_split h s
  rcases hh : hasK s l with _ | _
  · conv => lhs; rw [← List.take_append_drop (plN (l.map (·.1)) s) l, ← List.append_nil (l.take _)]
    rw [back_mid [] p1 (p3 hh)]
    rfl
  · obtain ⟨v, q1, q2⟩ := p2 hh
    conv => lhs; rw [take_get_drop q1]
    rw [back_mid _ p1 q2, if_pos rfl, List.take_add_one, q1]
    simp [backK, kl_irr]
section
variable {R : Type} {y : YFn} {kk : List (List PV) → Out → PV → Option R} {res : R}
theorem gdP_inv {d : Nat} {t : TrD PV d} (h : gdP d t = true) : okD 1 d t ∧ Srt (cD d t) ∧ (cD d t).length ≤ 50000 := by
  unfold gdP at h
  simp only [Bool.and_eq_true, decide_eq_true_eq] at h
  exact ⟨(okB_iff 1 d t).1 h.1, (srtB_iff _).1 h.2.1, h.2.2⟩
theorem gdP_kid {d : Nat} {ks : List (TrD PV d)} (h : gdP (d + 1) (ofL ks) = true) {k : TrD PV d} (hk : k ∈ ks) : gdP d k = true := by
  obtain ⟨h1, h2, h3⟩ := gdP_inv h
  have h4 := h1.2 k hk
  have h2 : Srt (ks.flatMap (cD d)) := h2
  have h3 : (ks.flatMap (cD d)).length ≤ 50000 := h3
  obtain ⟨i, hi, e⟩ := List.getElem_of_mem hk
  have hfl := flat_split (d := d) (List.getElem?_eq_getElem hi)
  rw [e] at hfl
  rw [hfl, List.append_assoc] at h2
  unfold gdP
  rw [(okB_iff 1 d k).2 (h4.weaken (by omega)), (srtB_iff _).2 h2.right.left, decide_eq_true (by have := len_mem_flat hk; omega)]
  rfl
theorem fo_eq0 {gf gb : List PV → Ky → Option (List (Ky × PV))} (hy : y.nat) (l : List (Ky × PV)) (hv : ∀ p ∈ l, vok p.2 = true) (hg : gdP 0 (ofL0 l) = true) (s q : Ky) {r : PV} (hr : IsR r) (o : Out) {cs : List PV} (hc : enc 0 (ofL0 l) = .eptr cs)
    (h : walkY y (fromK s l) [[.ptr 2 0], [.str q], [r]] o (fun bs o b => kk bs o (.bool b)) = some res) : foRun gLf gPl gKd gf gb y 2000 kk cs s q r o = some res := by
  obtain ⟨h1, h2, h3⟩ := gdP_inv hg
  have h0 : 1 ≤ l.length := h1.1
  have h8 : l.length ≤ 8 := h1.2
  have h2 : Srt l := h2
  have hpl := plN_le s (l.map (·.1))
  rw [List.length_map] at hpl
  rw [from_leaf h2] at h
  unfold foRun
  rw [gLf_enc hc, Option.bind_some, cond_t (b := decide (0 = 0)) (decide_eq_true rfl), gPl_enc h2 (by omega) (by omega) s hc, Option.bind_some]
  exact fo_leaf hy hc hv (by omega) 2000 (l.length - plN (l.map (·.1)) s) _ 2000 q r o (by omega) (by omega) hr h
theorem fo_eqS {d : Nat} {gb : List PV → Ky → Option (List (Ky × PV))} (hy : y.nat) (ks : List (TrD PV d)) (hv : ∀ p ∈ cD (d + 1) (ofL ks), vok p.2 = true) (hg : gdP (d + 1) (ofL ks) = true) (s q : Ky) {r : PV} (hr : IsR r) (o : Out) {cs : List PV} (hc : enc (d + 1) (ofL ks) = .eptr cs)
    (h : walkY y (fromK s (ks.flatMap (cD d))) [[.ptr 2 0], [.str q], [r]] o (fun bs o b => kk bs o (.bool b)) = some res) : foRun gLf gPl gKd (gFo d) gb y 2000 kk cs s q r o = some res := by
  obtain ⟨h1, h2, h3⟩ := gdP_inv hg
  have h4 : ∀ k ∈ ks, okD 4 d k := h1.2
  have h0 : 1 ≤ ks.length := h1.1.1
  have h8 : ks.length ≤ 8 := h1.1.2
  have h2 : Srt (ks.flatMap (cD d)) := h2
  obtain ⟨k, hk, _, _⟩ := kid_split (x := s) h4 (by omega) h2
  have hlt := (List.getElem?_eq_some_iff.1 hk).1
  rw [from_kids h4 (by omega) h2] at h
  unfold foRun
  rw [gLf_enc hc, Option.bind_some, cond_f (b := decide (d + 1 = 0)) (decide_eq_false (by omega)), slAt2 hc, gKd_enc h4 h2 (by omega) (by omega) s hc, Option.bind_some, cond_t (by rw [decide_eq_true (by omega), decide_eq_true (by omega)]; rfl), Int.toNat_natCast, Nat.mul_one, Nat.mul_one, List.take_of_length_le (by rw [List.length_map]; exact Nat.le_refl _), ← List.map_drop, ← List.length_drop]
  refine fo_node (gf := gFo d) (KS := ks.drop (kidN ks s)) (f := fun k => fromK s (cD d k)) ?_ (by rw [List.length_drop]; omega) (some false) 2000 (ks.drop (kidN ks s)).length 0 2000 q r o (by omega) (by rw [List.length_drop]; omega) hr (by rw [List.drop_zero]; exact h)
  intro x hx es ee
  have hm := List.mem_of_mem_drop hx
  unfold gFo
  rw [← ee, dec_enc (vok_mem hv hm), Option.bind_some, gdP_kid hg hm, cond_true]
theorem ba_eq0 {gf gb : List PV → Ky → Option (List (Ky × PV))} (hy : y.nat) (l : List (Ky × PV)) (hv : ∀ p ∈ l, vok p.2 = true) (hg : gdP 0 (ofL0 l) = true) (s q : Ky) {r : PV} (hr : IsR r) (o : Out) {cs : List PV} (hc : enc 0 (ofL0 l) = .eptr cs)
    (h : walkY y (backK s l) [[.ptr 2 0], [.str q], [r]] o (fun bs o b => kk bs o (.bool b)) = some res) : baRun gLf gPl gKd gf gb y 2000 kk cs s q r o = some res := by
  obtain ⟨h1, h2, h3⟩ := gdP_inv hg
  have h0 : 1 ≤ l.length := h1.1
  have h8 : l.length ≤ 8 := h1.2
  have h2 : Srt l := h2
  have hpl := plN_le s (l.map (·.1))
  rw [List.length_map] at hpl
  rw [back_leaf h2] at h
  unfold baRun
  rw [gLf_enc hc, Option.bind_some, cond_t (b := decide (0 = 0)) (decide_eq_true rfl), gPl_enc h2 (by omega) (by omega) s hc, Option.bind_some]
  rcases hh : hasK s l with _ | _
  · rw [hh, if_neg (by simp)] at h
    rw [cond_t (b := !false) rfl, wrapI_of (by omega) (by omega)]
    exact ba_leaf hy hc hv (by omega) 2000 _ 2000 q r o hpl (by omega) hr h
  · rw [hh, if_pos rfl] at h
    have hlt : plN (l.map (·.1)) s < l.length := by
      obtain ⟨v, q1, _⟩ := (leaf_split h2 s).2.1 hh
      exact (List.getElem?_eq_some_iff.1 q1).1
    rw [cond_f (b := !true) rfl]
    have := ba_leaf (gf := gf) (gb := gb) hy hc hv (by omega) 2000 (plN (l.map (·.1)) s + 1) 2000 q r o (by omega) (by omega) hr h
    rwa [show ((plN (l.map (·.1)) s + 1 : Nat) : Int) - 1 = (plN (l.map (·.1)) s : Int) by omega] at this
theorem ba_eqS {d : Nat} {gf : List PV → Ky → Option (List (Ky × PV))} (hy : y.nat) (ks : List (TrD PV d)) (hv : ∀ p ∈ cD (d + 1) (ofL ks), vok p.2 = true) (hg : gdP (d + 1) (ofL ks) = true) (s q : Ky) {r : PV} (hr : IsR r) (o : Out) {cs : List PV} (hc : enc (d + 1) (ofL ks) = .eptr cs)
    (h : walkY y (backK s (ks.flatMap (cD d))) [[.ptr 2 0], [.str q], [r]] o (fun bs o b => kk bs o (.bool b)) = some res) : baRun gLf gPl gKd gf (gBa d) y 2000 kk cs s q r o = some res := by
  obtain ⟨h1, h2, h3⟩ := gdP_inv hg
  have h4 : ∀ k ∈ ks, okD 4 d k := h1.2
  have h0 : 1 ≤ ks.length := h1.1.1
  have h8 : ks.length ≤ 8 := h1.1.2
  have h2 : Srt (ks.flatMap (cD d)) := h2
  obtain ⟨k, hk, _, _⟩ := kid_split (x := s) h4 (by omega) h2
  have hlt := (List.getElem?_eq_some_iff.1 hk).1
  rw [back_kids h4 (by omega) h2] at h
  unfold baRun
  rw [gLf_enc hc, Option.bind_some, cond_f (b := decide (d + 1 = 0)) (decide_eq_false (by omega)), gKd_enc h4 h2 (by omega) (by omega) s hc, Option.bind_some]
  have := ba_node (gf := gf) (gb := gBa d) hc (s := s) (f := fun k => backK s (cD d k)) (fun x hx es ee => by
    unfold gBa
    rw [← ee, dec_enc (vok_mem hv hx), Option.bind_some, gdP_kid hg hx, cond_true]) (by omega) 2000 (kidN ks s + 1) 2000 q r o (by omega) (by omega) hr h
  rwa [show ((kidN ks s + 1 : Nat) : Int) - 1 = (kidN ks s : Int) by omega] at this
end
theorem ok_forth : ∀ d, IOK NGt Wt 61 (tWalk (gFo d))
  | 0 => by
    refine InOK.of_run (en := enFo gLf gPl gKd (fun _ _ => none) (fun _ _ => none)) (en' := en []) (ok_enFo (walk_none _) (walk_none _)) rfl rfl Try.func61 rfl (by decide) (tWalk_nat _) (h := hFo) ?_
    intro bs o xs y r hy h
    simp only [tWalk] at h
    split at h
    · rename_i cs s
      unfold callW at h
      obtain ⟨hs, h⟩ := bif_inv h
      obtain ⟨l, hl, h⟩ := bind_some_inv h
      unfold gFo at hl
      obtain ⟨t, ht, hl⟩ := bind_some_inv hl
      obtain ⟨hg, hl⟩ := bif_inv hl
      injection hl with hl
      subst hl
      obtain ⟨e, hv⟩ := dec_inv ht
      obtain ⟨q, x, rfl, hr⟩ := shp_inv hs
      refine ⟨2000, ?_⟩
      have key := fo_eq0 (gf := fun _ _ => none) (gb := fun _ _ => none) (kk := fun b o v => some (b, o, v)) hy t hv hg s q hr o e.symm h
      rcases hr with rfl | ⟨rc, rfl⟩
      · exact (fo_run0 ..).trans key
      · exact (fo_run1 ..).trans key
    · cases h
  | d + 1 => by
    refine InOK.of_run (en := enFo gLf gPl gKd (gFo d) (fun _ _ => none)) (en' := en []) (ok_enFo (ok_forth d) (walk_none _)) rfl rfl Try.func61 rfl (by decide) (tWalk_nat _) (h := hFo) ?_
    intro bs o xs y r hy h
    simp only [tWalk] at h
    split at h
    · rename_i cs s
      unfold callW at h
      obtain ⟨hs, h⟩ := bif_inv h
      obtain ⟨l, hl, h⟩ := bind_some_inv h
      unfold gFo at hl
      obtain ⟨t, ht, hl⟩ := bind_some_inv hl
      obtain ⟨hg, hl⟩ := bif_inv hl
      injection hl with hl
      subst hl
      obtain ⟨e, hv⟩ := dec_inv ht
      obtain ⟨q, x, rfl, hr⟩ := shp_inv hs
      refine ⟨2000, ?_⟩
      have key := fo_eqS (gb := fun _ _ => none) (kk := fun b o v => some (b, o, v)) hy t hv hg s q hr o e.symm h
      rcases hr with rfl | ⟨rc, rfl⟩
      · exact (fo_run0 ..).trans key
      · exact (fo_run1 ..).trans key
    · cases h
theorem ok_backW : ∀ d, IOK NGt Wt 76 (tWalk (gBa d))
  | 0 => by
    refine InOK.of_run (en := enFo gLf gPl gKd (fun _ _ => none) (fun _ _ => none)) (en' := en []) (ok_enFo (walk_none _) (walk_none _)) rfl rfl Try.func76 rfl (by decide) (tWalk_nat _) (h := hBa) ?_
    intro bs o xs y r hy h
    simp only [tWalk] at h
    split at h
    · rename_i cs s
      unfold callW at h
      obtain ⟨hs, h⟩ := bif_inv h
      obtain ⟨l, hl, h⟩ := bind_some_inv h
      unfold gBa at hl
      obtain ⟨t, ht, hl⟩ := bind_some_inv hl
      obtain ⟨hg, hl⟩ := bif_inv hl
      injection hl with hl
      subst hl
      obtain ⟨e, hv⟩ := dec_inv ht
      obtain ⟨q, x, rfl, hr⟩ := shp_inv hs
      refine ⟨2000, ?_⟩
      have key := ba_eq0 (gf := fun _ _ => none) (gb := fun _ _ => none) (kk := fun b o v => some (b, o, v)) hy t hv hg s q hr o e.symm h
      rcases hr with rfl | ⟨rc, rfl⟩
      · exact (ba_run0 ..).trans key
      · exact (ba_run1 ..).trans key
    · cases h
  | d + 1 => by
    refine InOK.of_run (en := enFo gLf gPl gKd (fun _ _ => none) (gBa d)) (en' := en []) (ok_enFo (walk_none _) (ok_backW d)) rfl rfl Try.func76 rfl (by decide) (tWalk_nat _) (h := hBa) ?_
    intro bs o xs y r hy h
    simp only [tWalk] at h
    split at h
    · rename_i cs s
      unfold callW at h
      obtain ⟨hs, h⟩ := bif_inv h
      obtain ⟨l, hl, h⟩ := bind_some_inv h
      unfold gBa at hl
      obtain ⟨t, ht, hl⟩ := bind_some_inv hl
      obtain ⟨hg, hl⟩ := bif_inv hl
      injection hl with hl
      subst hl
      obtain ⟨e, hv⟩ := dec_inv ht
      obtain ⟨q, x, rfl, hr⟩ := shp_inv hs
      refine ⟨2000, ?_⟩
      have key := ba_eqS (gf := fun _ _ => none) (kk := fun b o v => some (b, o, v)) hy t hv hg s q hr o e.symm h
      rcases hr with rfl | ⟨rc, rfl⟩
      · exact (ba_run0 ..).trans key
      · exact (ba_run1 ..).trans key
    · cases h
end Go.Proofs.Ytmacjkiamejcnaa
