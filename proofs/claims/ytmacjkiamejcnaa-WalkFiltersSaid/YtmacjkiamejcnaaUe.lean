/-
  find, Get, Delete, Levels of a tree: their contracts.
-/
import Derived.Test.YtmacjkiamejcnaaUGa
set_option linter.unusedVariables false
set_option linter.unusedSimpArgs false
set_option maxRecDepth 100000
namespace Go.Proofs.Ytmacjkiamejcnaa
open Go.RowKit
/-- the leaf that a key belongs to -/
def leafD {β : Type} : (d : Nat) → TrD β d → Ky → List (Ky × β)
  | 0, l, _ => as0 l
  | d + 1, ks, x => match (asL ks)[kidN (asL ks) x]? with
    | some k => leafD d k x
    | none => []
theorem leafD_succ {β : Type} {d : Nat} (t : TrD β (d + 1)) {x : Ky} {k : TrD β d} (h : (asL t)[kidN (asL t) x]? = some k) : leafD (d + 1) t x = leafD d k x := by
  simp only [leafD]
  rw [h]
theorem leaf_ok {β : Type} : ∀ {m d : Nat} {t : TrD β d} (x : Ky), okD m d t → 0 < m → Srt (cD d t) → 1 ≤ (leafD d t x).length ∧ (leafD d t x).length ≤ 8 ∧ Srt (leafD d t x) ∧ getK x (leafD d t x) = getK x (cD d t) ∧ hasK x (leafD d t x) = hasK x (cD d t) ∧ (∀ p ∈ leafD d t x, p ∈ cD d t)
  | m, 0, l, x, h, hm, hs => ⟨Nat.le_trans hm h.1, h.2, hs, rfl, rfl, fun p hp => hp⟩
  | m, d + 1, ks, x, h, hm, hs => by
    obtain ⟨k, hk, hA, hB⟩ := kid_split (x := x) h.2 (by have := h.1.1; omega) hs
    have hkm := List.mem_of_getElem? hk
    have hfl := flat_split hk
    have hc : cD (d + 1) ks = (asL ks).flatMap (cD d) := rfl
    have hsk : Srt (cD d k) := by
      rw [hc, hfl, List.append_assoc] at hs
      exact hs.right.left
    obtain ⟨q1, q2, q3, q4, q5, q6⟩ := leaf_ok x (h.2 k hkm) (by omega) hsk
    rw [leafD_succ ks hk]
    refine ⟨q1, q2, q3, ?_, ?_, fun p hp => List.mem_flatMap.2 ⟨k, hkm, q6 p hp⟩⟩
    · rw [q4, hc, hfl, get_mid _ hA hB]
    · rw [q5, hc, hfl, has_mid _ hA hB]
def gFi (cs : List PV) (s : Ky) : Option (List PV) := (dec (depF 30 (.eptr cs)) (.eptr cs)).bind fun t => bif gdP (depF 30 (.eptr cs)) t then some (ptrC (enc 0 (ofL0 (leafD (depF 30 (.eptr cs)) t s)))) else none
section
variable {R : Type}
theorem okl_fi : AllOK NGt Wt (lFi gLf gKd) := allOK_cons ok_leafT (allOK_cons ok_kidT allOK_nil)
theorem fi_loop (fu : Nat) (kk : List (List PV) → PV → Option R) (s : Ky) (root : List PV) : ∀ (d n : Nat) (t : TrD PV d) (cs : List PV), enc d t = .eptr cs → d < n → okD 1 d t → Srt (cD d t) →
    fiLoop gLf gKd fu kk n (frFi s (.eptr cs) (.eptr root)) = kk [[.eptr root]] (enc 0 (ofL0 (leafD d t s)))
  | d, 0, t, cs, hc, hn, hok, hs => by omega
  | 0, n + 1, t, cs, hc, hn, hok, hs => by
    unfold fiLoop
    rw [loopK_succ, find_step, gLf_enc hc, Option.bind_some, cond_f (b := !decide (0 = 0)) (by simp), ← hc]
    rfl
  | d + 1, n + 1, t, cs, hc, hn, hok, hs => by
    have h4 : ∀ k ∈ asL t, okD 4 d k := hok.2
    have h0 : 1 ≤ (asL t).length := hok.1.1
    have h8 : (asL t).length ≤ 8 := hok.1.2
    have hs' : Srt ((asL t).flatMap (cD d)) := hs
    obtain ⟨k, hk, hA, hB⟩ := kid_split (x := s) h4 (by omega) hs'
    have hkm := List.mem_of_getElem? hk
    have hsk : Srt (cD d k) := by
      rw [flat_split hk, List.append_assoc] at hs'
      exact hs'.right.left
    obtain ⟨es, ee, q⟩ := kidAt_enc (R := R) hk
    unfold fiLoop
    rw [loopK_succ, find_step, gLf_enc hc, Option.bind_some, cond_t (b := !decide (d + 1 = 0)) (by simp), kidsOf_enc (ks := asL t) hc, gKd_enc (ks := asL t) h4 hs' (by omega) (by omega) s hc, Option.bind_some, q, leafD_succ t hk]
    exact fi_loop fu kk s root d n k es ee (by omega) ((h4 k hkm).weaken (by omega)) hsk
theorem hFind_nat (g : List PV → Ky → Option (List PV)) : (hFind g).nat := by
  intro R bs xs k
  simp only [hFind]
  split
  · rw [obind_assoc]; rfl
  all_goals rfl
theorem gdP_dep {d : Nat} {t : TrD PV d} (h : gdP d t = true) : depF 30 (enc d t) = d := by
  obtain ⟨h1, _, h3⟩ := gdP_inv h
  exact depF_enc h1 (by omega) (dep_lt h1 (by omega) (by omega))
theorem ok_find : HOK NGt Wt 72 (hFind gFi) := by
  refine hokX okl_fi allH_nil (h := hFi) Try.func72 rfl (by decide) (hFind_nat _) ?_
  intro bs xs r h
  simp only [hFind] at h
  split at h
  · rename_i cs s
    obtain ⟨es, he, h⟩ := bind_some_inv h
    unfold gFi at he
    obtain ⟨t, ht, he⟩ := bind_some_inv he
    obtain ⟨hg, he⟩ := bif_inv he
    injection he with he
    subst he
    obtain ⟨e, hv⟩ := dec_inv ht
    obtain ⟨h1, h2, h3⟩ := gdP_inv hg
    refine ⟨100, (find_raw1 gLf gKd 100 cs s _).trans ?_⟩
    rw [fi_loop 100 _ s cs _ 100 t cs e.symm (by have := dep_lt h1 (by omega) (by omega); omega) h1 h2, ← h, ptrC_enc]
  · exact ⟨1, (find_raw0 gLf gKd 0 _ _).trans h⟩
  · exact ⟨0, (find_rawN gLf gKd 0 _ _).trans h⟩
  · cases h
/-! ## Get -/
def gGe (cs : List PV) (s : Ky) : Option (Int × Bool) := (dec (depF 30 (.eptr cs)) (.eptr cs)).bind fun t => bif gdP (depF 30 (.eptr cs)) t then some (valP ((getK s (cD (depF 30 (.eptr cs)) t)).getD (.int .i64 0)), hasK s (cD (depF 30 (.eptr cs)) t)) else none
theorem hGet_nat (g : List PV → Ky → Option (Int × Bool)) : (hGet g).nat := by
  intro R bs xs k
  simp only [hGet]
  split
  · rw [obind_assoc]; rfl
  all_goals rfl
theorem get_leaf {l : List (Ky × PV)} (h : Srt l) (s : Ky) : (hasK s l = true → ∃ v, l[plN (l.map (·.1)) s]? = some (s, v) ∧ getK s l = some v) ∧ (hasK s l = false → getK s l = none) := by
  obtain ⟨p1, p2, _, _⟩ := leaf_split h s
  constructor
  · intro hh
    obtain ⟨v, q1, q2⟩ := p2 hh
    refine ⟨v, q1, ?_⟩
    conv => lhs; rw [take_get_drop q1]
    rw [get_mid _ p1 q2]
    simp [getK]
  · intro hh
    unfold getK
    rw [find_none hh]
    rfl
theorem ok_get : HOK NGt Wt 45 (hGet gGe) := by
  refine hokX (l := lGe gPl) (allOK_cons ok_placeT allOK_nil) (lh := lGeH gFi) (allH_cons ok_find allH_nil) (h := h0) Try.func45 rfl (by decide) (hGet_nat _) ?_
  intro bs xs r h
  simp only [hGet] at h
  split at h
  · rename_i cs s
    obtain ⟨p, hp, h⟩ := bind_some_inv h
    unfold gGe at hp
    obtain ⟨t, ht, hp⟩ := bind_some_inv hp
    obtain ⟨hg, hp⟩ := bif_inv hp
    injection hp with hp
    subst hp
    obtain ⟨e, hv⟩ := dec_inv ht
    obtain ⟨h1, h2, h3⟩ := gdP_inv hg
    obtain ⟨q1, q2, q3, q4, q5, q6⟩ := leaf_ok s h1 (by omega) h2
    have hfi : gFi cs s = some (ptrC (enc 0 (ofL0 (leafD (depF 30 (.eptr cs)) t s)))) := by
      unfold gFi
      rw [ht, Option.bind_some, hg, cond_true]
    refine ⟨0, (get_raw1 gPl gFi cs s _).trans ?_⟩
    obtain ⟨es, ee⟩ := enc_ptr 0 (ofL0 (leafD (depF 30 (.eptr cs)) t s))
    have hes : ptrC (enc 0 (ofL0 (leafD (depF 30 (.eptr cs)) t s))) = es := by rw [ee]; rfl
    rw [hfi, Option.bind_some, hes, gPl_enc q3 (by omega) (by omega) s ee, Option.bind_some, ← h, ← q4, ← q5]
    obtain ⟨g1, g2⟩ := get_leaf q3 s
    rcases hh : hasK s (leafD (depF 30 (.eptr cs)) t s) with _ | _
    · rw [cond_false, g2 hh]
      rfl
    · obtain ⟨v, g3, g4⟩ := g1 hh
      have hlt := (List.getElem?_eq_some_iff.1 g3).1
      have hvv : vok v = true := hv (s, v) (q6 _ (List.mem_of_getElem? g3))
      rw [cond_true, g4, Option.getD_some]
      have hs1 : (es.drop 1).head? = some (.sl none 1 (leafD (depF 30 (.eptr cs)) t s).length ((leafD (depF 30 (.eptr cs)) t s).map (·.2))) := by
        rw [enc_zero] at ee; injection ee with ee; subst ee; rfl
      rw [hs1, Option.bind_some]
      simp only [PV.asSl, if_true, Option.bind_some]
      rw [cond_t (by rw [decide_eq_true (by omega), decide_eq_true (by omega)]; rfl), Int.toNat_natCast, Nat.mul_one, List.head?_take, if_neg (by decide), List.head?_drop, List.getElem?_map, g3, Option.map_some, Option.bind_some]
      rw [show v = .int .i64 (valP v) from (valP_eq hvv).symm]
      rfl
  · exact ⟨0, (get_raw0 gPl gFi _ _).trans h⟩
  · exact ⟨0, (get_rawN gPl gFi _ _).trans h⟩
  · cases h
theorem get_law {x : PV} {l : List (Ky × PV)} (h : RootIs x l) (hl : l.length ≤ 50000) (s : Ky) (K : List (List PV) → PV → Option R) : (hGet gGe).F [[x]] [.ptr 0 0, .str s] K = K [[x]] (.tuple [(getK s l).getD (.int .i64 0), .bool (hasK s l)]) := by
  have hvk := h.vok
  rcases h with ⟨rfl, rfl⟩ | ⟨d, t, rfl, h1, h2, rfl, hv⟩
  · rfl
  · obtain ⟨cs, e⟩ := enc_ptr d t
    have hdep := gdP_dep (gdP_root h1 h2 hl)
    have hge : gGe cs s = some (valP ((getK s (cD d t)).getD (.int .i64 0)), hasK s (cD d t)) := by
      unfold gGe
      rw [← e, hdep, dec_enc hv, Option.bind_some, gdP_root h1 h2 hl, cond_true]
    rw [e]
    show ((gGe cs s).bind _) = _
    rw [hge, Option.bind_some]
    have hvo : vok ((getK s (cD d t)).getD (.int .i64 0)) = true := by
      rcases hg : getK s (cD d t) with _ | v
      · rfl
      · unfold getK at hg
        rw [Option.map_eq_some_iff] at hg
        obtain ⟨p, hp, rfl⟩ := hg
        exact hvk p (List.mem_of_find?_eq_some hp)
    rw [valP_eq hvo]
end
end Go.Proofs.Ytmacjkiamejcnaa
