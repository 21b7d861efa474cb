/-
  slices.Replace: its contract.
-/
import Derived.Test.YtmacjkiamejcnaaSf
import Derived.Test.YtmacjkiamejcnaaSg
import Derived.Test.YtmacjkiamejcnaaSh
import Derived.Test.YtmacjkiamejcnaaSi
set_option linter.unusedVariables false
set_option linter.unusedSimpArgs false
set_option maxRecDepth 1000000
namespace Go.Proofs.Ytmacjkiamejcnaa
open Go.RowKit Go.Lib

theorem cell_set {W : World} {b o k : Nat} {vs : List Value} (hs : Sized W b k) (h : o + vs.length ≤ k) (t : Nat) : (W.setCells b o vs).cell? ⟨b, t, none⟩ = if o ≤ t ∧ t < o + vs.length then vs[t - o]? else W.cell? ⟨b, t, none⟩ := by
  by_cases ht : o ≤ t ∧ t < o + vs.length
  · rw [if_pos ht]
    obtain ⟨q, rfl⟩ : ∃ q, t = o + q := ⟨t - o, by omega⟩
    rw [World.cell?_setCells_in b vs o W (fun x hx => sized_some hs (by omega)) q (by omega), Nat.add_sub_cancel_left, List.getElem?_eq_getElem (by omega)]
  · rw [if_neg ht]
    exact World.cell?_setCells_out b _ _ _ _ (fun _ _ => by show t < o ∨ o + vs.length ≤ t; omega)
theorem tri_get (A B C : List Value) (t : Nat) : (A ++ B ++ C)[t]? = if t < A.length then A[t]? else if t < A.length + B.length then B[t - A.length]? else C[t - (A.length + B.length)]? := by
  by_cases h1 : t < A.length
  · rw [if_pos h1, List.append_assoc, List.getElem?_append_left h1]
  · by_cases h2 : t < A.length + B.length
    · rw [if_neg h1, if_pos h2, List.append_assoc, List.getElem?_append_right (by omega), List.getElem?_append_left (by omega)]
    · rw [if_neg h1, if_neg h2, List.getElem?_append_right (by simp; omega), List.length_append]
/-- what the row holds: the elements ahead of i, then so many new ones, then those from j on -/
theorem rep_row {w : World} {b : Nat} {e : TypeId} {arr us : List Value} {i j : Nat} (hr : RowP w b e arr) (hij : i ≤ j) (hj : j ≤ arr.length) {w' : World} (hU : Upd b w w')
    (h1 : ∀ t, t < i → w'.cell? ⟨b, t, none⟩ = w.cell? ⟨b, t, none⟩) (h2 : ∀ t, t < us.length → w'.cell? ⟨b, i + t, none⟩ = us[t]?) (h3 : ∀ t, t < arr.length - j → w'.cell? ⟨b, i + us.length + t, none⟩ = arr[j + t]?) : RowP w' b e (arr.take i ++ us ++ arr.drop j) := by
  refine hU.rowP hr fun t u hu => ?_
  rw [tri_get] at hu
  have htk : (arr.take i).length = i := by simp; omega
  simp only [htk] at hu
  by_cases c1 : t < i
  · rw [if_pos c1, List.getElem?_take, if_pos c1] at hu
    rw [h1 t c1]
    exact hr.cell hu
  · rw [if_neg c1] at hu
    by_cases c2 : t < i + us.length
    · rw [if_pos c2] at hu
      have := h2 (t - i) (by omega)
      rw [show i + (t - i) = t by omega] at this
      rw [this, hu]
    · rw [if_neg c2, List.getElem?_drop] at hu
      have hlt := (List.getElem?_eq_some_iff.1 hu).1
      have := h3 (t - (i + us.length)) (by omega)
      rw [show i + us.length + (t - (i + us.length)) = t by omega] at this
      rw [this, hu]
theorem clr_row {w : World} {b : Nat} {e : TypeId} {l : List Value} (h : RowP w b e l) {o : Nat} (ho : l.length ≤ o) (rest : List Value) : RowP (w.setCells b o rest) b e l :=
  (Upd.setCells b rest o w).rowP h fun t u hu => by
    have := (List.getElem?_eq_some_iff.1 hu).1
    rw [World.cell?_setCells_out b _ _ _ _ (fun _ _ => .inl (by show t < _; omega))]
    exact h.cell hu
theorem rep_left_row {w : World} {b : Nat} {e : TypeId} {arr us : List Value} {c i j : Nat} (hr : RowP w b e arr) (hs : Sized w b (c * 1)) (hij : i ≤ j) (hj : j ≤ arr.length) (hc : arr.length ≤ c) (hm : i + us.length ≤ j) : RowP (((w.drew.setCells b (0 + i) us).drew).setCells b (0 + (i + us.length)) (arr.drop j)) b e (arr.take i ++ us ++ arr.drop j) := by
  have s1 : Sized w.drew b (c * 1) := hs
  have hU1 : Upd b w ((w.drew.setCells b (0 + i) us).drew) := (((Upd.refl b w).drew).step _ _).drew
  have s2 : Sized (w.drew.setCells b (0 + i) us).drew b (c * 1) := hU1.sized hs
  have hd : (arr.drop j).length = arr.length - j := by simp
  have g1 : ∀ t, (w.drew.setCells b (0 + i) us).drew.cell? ⟨b, t, none⟩ = if 0 + i ≤ t ∧ t < 0 + i + us.length then us[t - (0 + i)]? else w.cell? ⟨b, t, none⟩ := fun t => cell_set s1 (by omega) t
  refine rep_row hr hij hj (hU1.step _ _) (fun t ht => ?_) (fun t ht => ?_) (fun t ht => ?_)
  · rw [cell_set s2 (by omega), if_neg (by omega), g1, if_neg (by omega)]
  · rw [cell_set s2 (by omega), if_neg (by omega), g1, if_pos (by omega), show i + t - (0 + i) = t by omega]
  · rw [cell_set s2 (by omega), if_pos (by omega), List.getElem?_drop, show i + us.length + t - (0 + (i + us.length)) = t by omega]
theorem rep_right_row {w : World} {b : Nat} {e : TypeId} {arr us : List Value} {c i j : Nat} (hr : RowP w b e arr) (hs : Sized w b (c * 1)) (hij : i ≤ j) (hj : j ≤ arr.length) (hfit : i + us.length + (arr.length - j) ≤ c) : RowP ((w.drew.drew.setCells b (0 + (i + us.length)) (arr.drop j)).setCells b (0 + i) us) b e (arr.take i ++ us ++ arr.drop j) := by
  have s1 : Sized w.drew.drew b (c * 1) := hs
  have hU1 : Upd b w (w.drew.drew.setCells b (0 + (i + us.length)) (arr.drop j)) := (((Upd.refl b w).drew).drew).step _ _
  have s2 := hU1.sized hs
  have hd : (arr.drop j).length = arr.length - j := by simp
  have g1 : ∀ t, (w.drew.drew.setCells b (0 + (i + us.length)) (arr.drop j)).cell? ⟨b, t, none⟩ = if 0 + (i + us.length) ≤ t ∧ t < 0 + (i + us.length) + (arr.drop j).length then (arr.drop j)[t - (0 + (i + us.length))]? else w.cell? ⟨b, t, none⟩ := fun t => cell_set s1 (by omega) t
  refine rep_row hr hij hj (hU1.step _ _) (fun t ht => ?_) (fun t ht => ?_) (fun t ht => ?_)
  · rw [cell_set s2 (by omega), if_neg (by omega), g1, if_neg (by omega)]
  · rw [cell_set s2 (by omega), if_pos (by omega), show i + t - (0 + i) = t by omega]
  · rw [cell_set s2 (by omega), if_neg (by omega), g1, if_pos (by omega), List.getElem?_drop, show i + us.length + t - (0 + (i + us.length)) = t by omega]
theorem rep_end_row {w : World} {b : Nat} {e : TypeId} {arr us : List Value} {c i : Nat} (hr : RowP w b e arr) (hs : Sized w b (c * 1)) (hi : i ≤ arr.length) (hfit : i + us.length ≤ c) : RowP (w.setCells b (0 + i * 1) us) b e (arr.take i ++ us ++ arr.drop arr.length) := by
  refine rep_row hr hi (Nat.le_refl _) ((Upd.refl b w).step _ _) (fun t ht => ?_) (fun t ht => ?_) (fun t ht => by omega)
  · rw [cell_set hs (by omega), if_neg (by omega)]
  · rw [cell_set hs (by omega), if_pos (by omega), show i + t - (0 + i * 1) = t by omega]
theorem rep_grow_row {w : World} {N : Nat} (hN : N = w.heap.size) {arr us : List Value} {E : TypeId} {i j : Nat} (hij : i ≤ j) (hj : j ≤ arr.length) (A B : Array Value) (hA : A.size = us.length + (arr.length - j)) :
    RowP ((((w.drew.drew.alloc (.cells ((arr.take i).toArray ++ A ++ B) E)).setCells N i us).drew).setCells N (i + us.length) (arr.drop j)) N E (arr.take i ++ us ++ arr.drop j) ∧
    Upd N (w.drew.drew.alloc (.cells ((arr.take i).toArray ++ A ++ B) E)) ((((w.drew.drew.alloc (.cells ((arr.take i).toArray ++ A ++ B) E)).setCells N i us).drew).setCells N (i + us.length) (arr.drop j)) ∧ (w.drew.drew.alloc (.cells ((arr.take i).toArray ++ A ++ B) E)).heap[N]? = some (.cells ((arr.take i).toArray ++ A ++ B) E (0, 0)) := by
  subst hN
  have htk : (arr.take i).length = i := by simp; omega
  have hd : (arr.drop j).length = arr.length - j := by simp
  obtain ⟨row, hrow⟩ : ∃ row, row = (arr.take i).toArray ++ A ++ B := ⟨_, rfl⟩
  have hsz : row.size = i + (us.length + (arr.length - j)) + B.size := by rw [hrow]; simp [hA]; omega
  have hr : ∀ t, t < i → row[t]? = arr[t]? := fun t ht => by
    rw [hrow, Array.append_assoc, Array.getElem?_append_left (by simp; omega)]
    rw [show (arr.take i).toArray[t]? = (arr.take i)[t]? from List.getElem?_toArray, List.getElem?_take, if_pos ht]
  rw [← hrow]
  have h0 : (w.drew.drew.alloc (.cells row E)).heap[w.heap.size]? = some (.cells row E (0, 0)) := heap_alloc_new w.drew.drew _
  have s0 : Sized (w.drew.drew.alloc (.cells row E)) w.heap.size row.size := ⟨_, _, h0, Nat.le_refl _⟩
  have hU1 : Upd w.heap.size (w.drew.drew.alloc (.cells row E)) (((w.drew.drew.alloc (.cells row E)).setCells w.heap.size i us).drew) := ((Upd.refl _ _).step _ _).drew
  have s1 := hU1.sized s0
  have g1 : ∀ t, (((w.drew.drew.alloc (.cells row E)).setCells w.heap.size i us).drew).cell? ⟨w.heap.size, t, none⟩ = if i ≤ t ∧ t < i + us.length then us[t - i]? else (w.drew.drew.alloc (.cells row E)).cell? ⟨w.heap.size, t, none⟩ := fun t => cell_set s0 (by omega) t
  have hU := hU1.step (i + us.length) (arr.drop j)
  obtain ⟨c, k1, k2⟩ := hU.row _ _ _ h0
  refine ⟨rowP_cells k1 fun t u hu => ?_, hU, h0⟩
  rw [tri_get] at hu
  simp only [htk] at hu
  rw [cell_set s1 (by omega)]
  by_cases c1 : t < i
  · rw [if_pos c1, List.getElem?_take, if_pos c1] at hu
    rw [if_neg (by omega), g1, if_neg (by omega), cell_of_row _ _ _ row E (0, 0) h0, hr t c1, hu]
  · rw [if_neg c1] at hu
    by_cases c2 : t < i + us.length
    · rw [if_pos c2] at hu
      rw [if_neg (by omega), g1, if_pos (by omega), hu]
    · rw [if_neg c2] at hu
      have hlt := (List.getElem?_eq_some_iff.1 hu).1
      rw [if_pos (by omega), hu]
def p_replace : CFn := ⟨fun sz n cells xs kk => match xs with | [.int .i64 i, .int .i64 j, .sl _ 1 m vs] => bif decide (sz = 1) && (decide (cells.length = n) && (decide (0 ≤ i) && (decide (i < j) && (decide (j ≤ n) && (decide (0 < m) && decide (n + m ≤ 1000000)))))) then kk (i.toNat + m + (n - j.toNat)) (cells.take i.toNat ++ vs ++ cells.drop j.toNat) else none | _ => none⟩
set_option maxHeartbeats 4000000 in
theorem cok_replace {NG : Nat} {W : World → Prop} : COK NG W 85 p_replace where
  nat := by
    intro R sz n cells xs kk
    simp only [p_replace]
    split
    · rename_i i j _ m vs
      rcases (decide (sz = 1) && (decide (cells.length = n) && (decide (0 ≤ i) && (decide (i < j) && (decide (j ≤ n) && (decide (0 < m) && decide (n + m ≤ 1000000))))))) with _ | _ <;> rfl
    · rfl
  call := by
    intro M b c e arr sz n cells xs vs n' cells' hW hng hG hrow hr hU hNG hnc hcm hsz hrT h
    simp only [p_replace] at h
    split at h
    · rename_i i j nl m ws
      rcases hb : (decide (sz = 1) && (decide (cells.length = n) && (decide (0 ≤ i) && (decide (i < j) && (decide (j ≤ n) && (decide (0 < m) && decide (n + m ≤ 1000000))))))) with _ | _ <;> rw [hb] at h
      · cases h
      simp only [cond_true, Option.some.injEq, Prod.mk.injEq] at h
      obtain ⟨rfl, rfl⟩ := h
      simp only [Bool.and_eq_true, decide_eq_true_eq] at hb
      obtain ⟨b1, b2, b3, b4, b5, b6, b7⟩ := hb
      obtain ⟨u1, u2, u3, rfl, g1, g2, g3⟩ := relT3 hrT
      simp only [RelD] at g1 g2 g3
      subst g1 g2
      obtain ⟨A, vc, us, rfl, j1, j2, j3, j4, j5, j6, j7⟩ := g3
      have hul : us.length = m := by rw [← j6.length, j5]; omega
      obtain rfl | ⟨vb, voff, rfl, hat⟩ := j7
      · simp at hul; omega
      obtain ⟨i, rfl⟩ : ∃ m : Nat, i = (m : Int) := ⟨i.toNat, by omega⟩
      obtain ⟨j, rfl⟩ : ∃ m : Nat, j = (m : Int) := ⟨j.toNat, by omega⟩
      have hl : arr.length = n := by rw [← hr.length, b2]
      have hij : i < j := by omega
      have hjn : j ≤ n := by omega
      obtain ⟨d, rfl⟩ : ∃ d, n = j + d := ⟨n - j, by omega⟩
      subst b1
      simp only [Int.toNat_natCast, Nat.add_sub_cancel_left]
      have hvs : ∀ j v, us[j]? = some v → M.w.cell? ⟨vb, voff + j, none⟩ = some v := fun j v hj => (hat j v hj).1
      obtain ⟨u0, hu0⟩ : ∃ u, us[0]? = some u := ⟨_, List.getElem?_eq_getElem (by omega)⟩
      have hvb : vb ≠ b := by
        rintro rfl
        have := (hat 0 u0 hu0).2
        omega
      have hcs : ∀ j v, arr[j]? = some v → M.w.cell? ⟨b, 0 + j, none⟩ = some v := fun j v hj => by rw [Nat.zero_add]; exact hrow.cell hj
      obtain ⟨tA, kA, hsa, hkA⟩ := shape_cell (hvs 0 u0 hu0)
      obtain ⟨tB, kB, hsb⟩ : ∃ t k, M.w.shape? b = some (t, k) := by
        obtain ⟨cur, e', h1, _⟩ := hsz
        exact ⟨e', cur.size, by simp [World.shape?, h1]⟩
      have hc63 : c ≤ 9223372036854775807 := by unfold maxLen at hcm; omega
      have hent : ∀ vs, (callFunc 85 vs).run Try.prog M.w = .ok (.enter 85 vs) M.w := fun vs => by
        simp [callFunc, Try.func85]
        rw [if_neg (by decide), if_neg (by decide)]
      refine .inr ⟨hent _, ?_⟩
      have hfz : ∀ j, M.w.frozen? ⟨b, j, none⟩ = false := fun j => sized_fz hsz _
      have hsp : ∀ t, t < c → (M.w.cell? ⟨b, 0 + t, none⟩).isSome = true := fun t ht => sized_some hsz (by omega)
      have hrel : ∀ {M' : Mem}, M.le M' → RelL M' (cells.take i ++ ws ++ cells.drop j) (arr.take i ++ us ++ arr.drop j) := fun hm => (((hr.take i).append j6).append (hr.drop j)).mono hm
      by_cases hd : 0 < d
      · by_cases hfit : i + m + d ≤ c
        · rcases Nat.lt_trichotomy (i + m) j with hlt | heq | hgt
          · refine (replace_left b 0 d c i j vb voff m vc arr us M.w hij hd b6 hnc hlt hc63 hvb hl hul hcs hfz hvs hr.one j6.one).mono ?_
            rintro e' w' ⟨rfl, rfl⟩
            subst hul
            have hU' : Upd b M.w ((((M.w.drew.setCells b (0 + i) us).drew).setCells b (0 + (i + us.length)) (arr.drop j)).setCells b (0 + (i + us.length + d)) (List.replicate (j + d - (i + us.length + d)) (.pointer none))) := (((((Upd.refl b M.w).drew).step _ _).drew).step _ _).step _ _
            have hm := hU'.move hU
            exact ⟨_, rfl, M.U, hm, b, c, e, _, rfl, .inl rfl, clr_row (rep_left_row hrow hsz (by omega) (by omega) (by omega) (by omega)) (by simp [hl]; omega) _, hrel hm.le, hU, hfit, hcm, hU'.sized hsz⟩
          · refine (replace_same b 0 d c i j vb voff m vc arr us M.w hij hd b6 hnc heq hc63 hvb hl hul hcs hfz hvs hr.one j6.one).mono ?_
            rintro e' w' ⟨rfl, rfl⟩
            subst hul
            have hU' : Upd b M.w (((M.w.drew.setCells b (0 + i) us).drew).setCells b (0 + (i + us.length)) (arr.drop j)) := ((((Upd.refl b M.w).drew).step _ _).drew).step _ _
            have hm := hU'.move hU
            exact ⟨_, rfl, M.U, hm, b, c, e, _, rfl, .inl rfl, rep_left_row hrow hsz (by omega) (by omega) (by omega) (by omega), hrel hm.le, hU, hfit, hcm, hU'.sized hsz⟩
          · refine (replace_right b 0 d c i j vb voff m vc arr us M.w hij hd b6 hnc hgt hfit hc63 hvb hl hul hcs hsp hfz hvs hr.one j6.one tA tB kA kB hsa hsb hkA).mono ?_
            rintro e' w' ⟨rfl, rfl⟩
            subst hul
            have hU' : Upd b M.w ((M.w.drew.drew.setCells b (0 + (i + us.length)) (arr.drop j)).setCells b (0 + i) us) := ((((Upd.refl b M.w).drew).drew).step _ _).step _ _
            have hm := hU'.move hU
            exact ⟨_, rfl, M.U, hm, b, c, e, _, rfl, .inl rfl, rep_right_row hrow hsz (by omega) (by omega) (by omega), hrel hm.le, hU, hfit, hcm, hU'.sized hsz⟩
        · have hGn : i + m + d ≤ grownCap M.w.drew (i + m + d) c 93 := grownCap_ge M.w.drew _ _ _
          have hGm : grownCap M.w.drew (i + m + d) c 93 ≤ maxLen := grownCap_le_maxLen M.w.drew (i + m + d) c 93 (by unfold maxLen; omega)
          obtain ⟨G, hG⟩ : ∃ G, G = grownCap M.w.drew (i + m + d) c 93 := ⟨_, rfl⟩
          refine (replace_grow b 0 d c i j vb voff m vc arr us M.w hij hd b6 hnc (by omega) (by omega) hl hul hcs hvs hr.one j6.one).mono ?_
          rintro e' w' ⟨rfl, rfl⟩
          rw [← hG] at hGn hGm ⊢
          subst hul
          have hz1 : (Builtin.zeroCells (Value.cells (.pointer none)) (i + us.length + d - i)).size = us.length + (arr.length - j) := by rw [zeroCells_one _ (by decide)]; omega
          obtain ⟨q1, q2, q3⟩ := rep_grow_row (w := M.w) rfl (us := us) (E := 93) (Nat.le_of_lt hij) (show j ≤ arr.length by omega) (Builtin.zeroCells (Value.cells (.pointer none)) (i + us.length + d - i)) (Builtin.zeroCells (Value.cells (.pointer none)) (G - (i + us.length + d))) hz1
          have hm := new_move (M := M) (((Below.refl _ M.w).drew.drew.alloc (Nat.le_refl _) _).trans (q2.below (Nat.le_refl _)))
          refine ⟨_, rfl, _, hm.wide b, M.w.heap.size, G, _, _, rfl, .inr (Nat.le_refl _), q1, hrel hm.le, by simp, hGn, hGm, q2.sized ⟨_, _, q3, ?_⟩⟩
          simp only [Array.size_append, hz1, zeroCells_one _ (show (Value.cells (.pointer none)).size = 1 by decide), List.size_toArray, List.length_take]
          omega
      · obtain rfl : d = 0 := by omega
        have hl0 : arr.length = j := by omega
        by_cases hfit : i + m ≤ c
        · by_cases hlt : i + m < j
          · refine (replace_end_less b 0 c i j vb voff m vc arr us M.w hij b6 (by omega) hlt hfit hc63 hvb hl0 hul hcs hsp hfz hvs hr.one j6.one).mono ?_
            rintro e' w' ⟨rfl, rfl⟩
            subst hul
            have hU' : Upd b M.w ((M.w.setCells b (0 + i * 1) us).setCells b (0 + (i + us.length)) (List.replicate (j - (i + us.length)) (.pointer none))) := ((Upd.refl b M.w).step _ _).step _ _
            have hm := hU'.move hU
            refine ⟨_, rfl, M.U, hm, b, c, e, _, rfl, .inl rfl, ?_, hrel hm.le, hU, hfit, hcm, hU'.sized hsz⟩
            have := clr_row (rep_end_row (i := i) hrow hsz (by omega) hfit) (o := 0 + (i + us.length)) (by simp; omega) (List.replicate (j - (i + us.length)) (.pointer none))
            rwa [hl0] at this
          · refine (replace_end_full b 0 c i j vb voff m vc arr us M.w hij b6 (by omega) (by omega) hfit hc63 hvb hl0 hul hcs hsp hfz hvs hr.one j6.one).mono ?_
            rintro e' w' ⟨rfl, rfl⟩
            subst hul
            have hU' : Upd b M.w (M.w.setCells b (0 + i * 1) us) := (Upd.refl b M.w).step _ _
            have hm := hU'.move hU
            refine ⟨_, rfl, M.U, hm, b, c, e, _, rfl, .inl rfl, ?_, hrel hm.le, hU, hfit, hcm, hU'.sized hsz⟩
            have := rep_end_row (i := i) hrow hsz (by omega) hfit
            rwa [hl0] at this
        · have hGn : i + m ≤ grownCap M.w (i + m) c 93 := grownCap_ge M.w _ _ _
          have hGm : grownCap M.w (i + m) c 93 ≤ maxLen := grownCap_le_maxLen M.w (i + m) c 93 (by unfold maxLen; omega)
          obtain ⟨G, hG⟩ : ∃ G, G = grownCap M.w (i + m) c 93 := ⟨_, rfl⟩
          refine (replace_end_grow b 0 c i j vb voff m vc arr us M.w hij b6 (by omega) (by omega) (by omega) hl0 hul hcs hvs hr.one j6.one).mono ?_
          rintro e' w' ⟨rfl, rfl⟩
          rw [← hG] at hGn hGm ⊢
          have hm := new_move (M := M) (((Below.refl _ M.w).drew.alloc (Nat.le_refl _) (.cells ((arr.take i ++ us).toArray ++ Builtin.zeroCells (Value.cells (.pointer none)) (G - (i + m))) 93)))
          refine ⟨_, rfl, _, hm.wide b, M.w.heap.size, G, 93, arr.take i ++ us ++ arr.drop j, rfl, .inr (Nat.le_refl _), ⟨(Builtin.zeroCells (Value.cells (.pointer none)) (G - (i + m))).toList, ?_⟩, hrel hm.le, by simp, hGn, hGm, ⟨_, _, heap_alloc_new M.w.drew _, ?_⟩⟩
          · refine (heap_alloc_new M.w.drew _).trans ?_
            rw [List.drop_eq_nil_of_le (show arr.length ≤ j by omega)]
            simp
          · simp only [Array.size_append, zeroCells_one _ (show (Value.cells (.pointer none)).size = 1 by decide), List.size_toArray, List.length_append, List.length_take]
            omega
    · cases h
end Go.Proofs.Ytmacjkiamejcnaa
