/-
  slices.Insert: its contract (printed by wip/gen/rd.py).
-/
import Derived.Test.YtmacjkiamejcnaaSc
set_option linter.unusedVariables false
set_option linter.unusedSimpArgs false
set_option maxRecDepth 1000000
namespace Go.Proofs.Ytmacjkiamejcnaa
open Go.RowKit Go.Lib

theorem Upd.below {b B : Nat} {w w' : World} (h : Upd b w w') (hB : B ≤ b) : Below B w w' := ⟨h.os, h.tape, h.output, Nat.le_of_eq h.size.symm, fun k hk => h.block k (by omega)⟩
theorem Move.wide {M M' : Mem} (h : Move M M' none) (b : Nat) : Move M M' (some b) := ⟨h.os, h.tape, h.output, h.size, fun k hk _ => h.block k hk (by simp), h.le⟩
/-- what the grown row holds -/
theorem grow_row {w : World} {arr vs : List Value} {E : TypeId} {i n : Nat} (hl : arr.length = n) (hi : i ≤ n) (A B : Array Value) (hA : A.size = n + vs.length - i) :
    RowP ((((w.alloc (.cells ((arr.take i).toArray ++ A ++ B) E)).drew.setCells w.heap.size i vs).drew).setCells w.heap.size (i + vs.length) (arr.drop i)) w.heap.size E (arr.take i ++ vs ++ arr.drop i) ∧
    Upd w.heap.size (w.alloc (.cells ((arr.take i).toArray ++ A ++ B) E)) ((((w.alloc (.cells ((arr.take i).toArray ++ A ++ B) E)).drew.setCells w.heap.size i vs).drew).setCells w.heap.size (i + vs.length) (arr.drop i)) := by
  have hd : (arr.drop i).length = n - i := by simp [hl]
  have htk : (arr.take i).length = i := by simp; omega
  obtain ⟨row, hrow⟩ : ∃ row, row = (arr.take i).toArray ++ A ++ B := ⟨_, rfl⟩
  have hsz : row.size = i + (n + vs.length - i) + B.size := by rw [hrow]; simp [hA]; omega
  have hr : ∀ t, t < i → row[t]? = arr[t]? := fun t ht => by
    rw [hrow, Array.append_assoc, Array.getElem?_append_left (by simp; omega)]
    rw [show (arr.take i).toArray[t]? = (arr.take i)[t]? from List.getElem?_toArray, List.getElem?_take, if_pos ht]
  rw [← hrow]
  have hU : Upd w.heap.size (w.alloc (.cells row E)) ((((w.alloc (.cells row E)).drew.setCells w.heap.size i vs).drew).setCells w.heap.size (i + vs.length) (arr.drop i)) := (((Upd.refl _ _).drew.step _ _).drew).step _ _
  have h0 : (w.alloc (.cells row E)).heap[w.heap.size]? = some (.cells row E (0, 0)) := heap_alloc_new _ _
  have hS : ∀ o, o < n + vs.length → ((w.alloc (.cells row E)).cell? ⟨w.heap.size, o, none⟩).isSome = true := fun o ho => by
    rw [cell_of_row _ _ _ row E (0, 0) h0, Array.getElem?_eq_getElem (by omega)]; rfl
  have hU1 : Upd w.heap.size (w.alloc (.cells row E)) (((w.alloc (.cells row E)).drew.setCells w.heap.size i vs).drew) := ((Upd.refl _ _).drew.step _ _).drew
  have hS1 : ∀ o, o < n + vs.length → ((((w.alloc (.cells row E)).drew.setCells w.heap.size i vs).drew).cell? ⟨w.heap.size, o, none⟩).isSome = true := fun o ho => by
    obtain ⟨c, k1, k2⟩ := hU1.row _ _ _ h0
    rw [cell_of_row _ _ _ c E (0, 0) k1, Array.getElem?_eq_getElem (by omega)]; rfl
  obtain ⟨c, k1, k2⟩ := hU.row _ _ _ h0
  refine ⟨rowP_cells k1 fun t u hu => ?_, hU⟩
  by_cases ht : t < i
  · rw [World.cell?_setCells_out _ _ _ _ _ (fun _ _ => .inl (by show t < _; omega))]
    show ((w.alloc (.cells row E)).drew.setCells w.heap.size i vs).cell? _ = _
    rw [World.cell?_setCells_out _ _ _ _ _ (fun _ _ => .inl (by show t < _; omega))]
    show (w.alloc (.cells row E)).cell? _ = _
    rw [cell_of_row _ _ _ row E (0, 0) h0, hr t ht]
    rwa [List.append_assoc, List.getElem?_append_left (by omega), List.getElem?_take, if_pos ht] at hu
  · by_cases ht2 : t < i + vs.length
    · obtain ⟨q, rfl⟩ : ∃ q, t = i + q := ⟨t - i, by omega⟩
      rw [List.append_assoc, List.getElem?_append_right (by omega), htk, Nat.add_sub_cancel_left, List.getElem?_append_left (by omega)] at hu
      obtain ⟨hq, hu⟩ := List.getElem?_eq_some_iff.1 hu
      rw [World.cell?_setCells_out _ _ _ _ _ (fun _ _ => .inl (by show i + q < _; omega))]
      have := World.cell?_setCells_in w.heap.size vs i (w.alloc (.cells row E)).drew (fun x hx => hS (i + x) (by omega)) q hq
      show ((w.alloc (.cells row E)).drew.setCells w.heap.size i vs).cell? _ = _
      rw [this, hu]
    · obtain ⟨q, rfl⟩ : ∃ q, t = i + vs.length + q := ⟨t - i - vs.length, by omega⟩
      rw [List.getElem?_append_right (by simp; omega)] at hu
      simp only [List.length_append, htk, Nat.add_sub_cancel_left] at hu
      obtain ⟨hq, hu⟩ := List.getElem?_eq_some_iff.1 hu
      have := World.cell?_setCells_in w.heap.size (arr.drop i) (i + vs.length) (((w.alloc (.cells row E)).drew.setCells w.heap.size i vs).drew) (fun x hx => hS1 (i + vs.length + x) (by omega)) q hq
      rw [this, hu]
theorem end_room_row {w : World} {b : Nat} {e : TypeId} {arr vs : List Value} (hr : RowP w b e arr) {c n : Nat} (hs : Sized w b (c * 1)) (hl : arr.length = n) (hroom : n + vs.length ≤ c) : RowP (w.setCells b (0 + n) vs) b e (arr ++ vs) := by
  refine ((Upd.refl b w).step (0 + n) vs).rowP hr fun t u hu => ?_
  by_cases ht : t < n
  · rw [World.cell?_setCells_out b _ _ _ _ (fun _ _ => .inl (by show t < _; omega))]
    rw [List.getElem?_append_left (by omega)] at hu
    exact hr.cell hu
  · obtain ⟨q, rfl⟩ : ∃ q, t = n + q := ⟨t - n, by omega⟩
    rw [List.getElem?_append_right (by omega), hl, Nat.add_sub_cancel_left] at hu
    obtain ⟨hq, hu⟩ := List.getElem?_eq_some_iff.1 hu
    have := World.cell?_setCells_in b vs (0 + n) w (fun x hx => sized_some hs (by omega)) q hq
    rw [show n + q = 0 + n + q by omega, this, hu]
theorem shape_cell {w : World} {b o : Nat} {u : Value} (h : w.cell? ⟨b, o, none⟩ = some u) : ∃ t k, w.shape? b = some (t, k) ∧ k ≠ 0 := by
  unfold World.cell? at h
  split at h
  · rename_i c e fr hb
    refine ⟨e, c.size, by simp [World.shape?, hb], ?_⟩
    intro h0
    rw [Array.size_eq_zero_iff.1 h0] at h
    simp at h
  · simp at h
theorem zeroCells_one (z : Value) (hz : z.cells.size = 1) (n : Nat) : (Builtin.zeroCells z.cells n).size = n := by
  simp [Builtin.zeroCells, hz]
/-- a new row -/
theorem new_move {M : Mem} {w' : World} (hb : Below M.w.heap.size M.w w') : Move M ⟨w', fun x => if x < M.w.heap.size then M.U x else 0, M.y⟩ none := Move.mk0 hb fun x hx => by simp [hx]

def p_insert_s : CFn := ⟨fun sz n cells xs kk => match xs with | [.int .i64 i, .sl _ 1 m vs] => bif decide (sz = 1) && (decide (cells.length = n) && (decide (0 ≤ i) && (decide (i ≤ n) && (decide (0 < m) && decide (n + m ≤ 1000000))))) then kk (n + m) (cells.take i.toNat ++ vs ++ cells.drop i.toNat) else none | _ => none⟩
set_option maxHeartbeats 4000000 in
theorem cok_insert_s {NG : Nat} {W : World → Prop} : COK NG W 82 p_insert_s where
  nat := by
    intro R sz n cells xs kk
    simp only [p_insert_s]
    split
    · rename_i i _ m vs
      rcases (decide (sz = 1) && (decide (cells.length = n) && (decide (0 ≤ i) && (decide (i ≤ n) && (decide (0 < m) && decide (n + m ≤ 1000000)))))) with _ | _ <;> rfl
    · rfl
  call := by
    intro M b c e arr sz n cells xs vs n' cells' hW hng hG hrow hr hU hNG hnc hcm hsz hrT h
    simp only [p_insert_s] at h
    split at h
    · rename_i i nl m ws
      rcases hb : (decide (sz = 1) && (decide (cells.length = n) && (decide (0 ≤ i) && (decide (i ≤ n) && (decide (0 < m) && decide (n + m ≤ 1000000)))))) with _ | _ <;> rw [hb] at h
      · cases h
      simp only [cond_true, Option.some.injEq, Prod.mk.injEq] at h
      obtain ⟨rfl, rfl⟩ := h
      simp only [Bool.and_eq_true, decide_eq_true_eq] at hb
      obtain ⟨b1, b2, b3, b4, b5, b6⟩ := hb
      obtain ⟨u1, u2, rfl, g1, g2⟩ := relT2 hrT
      simp only [RelD] at g1 g2
      subst g1
      obtain ⟨A, vc, us, rfl, j1, j2, j3, j4, j5, j6, j7⟩ := g2
      have hul : us.length = m := by rw [← j6.length, j5]; omega
      obtain rfl | ⟨vb, voff, rfl, hat⟩ := j7
      · simp at hul; omega
      obtain ⟨i, rfl⟩ : ∃ m : Nat, i = (m : Int) := ⟨i.toNat, by omega⟩
      have hl : arr.length = n := by rw [← hr.length, b2]
      have hi : i ≤ n := by omega
      subst b1
      simp only [Int.toNat_natCast]
      have hvs : ∀ j v, us[j]? = some v → M.w.cell? ⟨vb, voff + j, none⟩ = some v := fun j v hj => (hat j v hj).1
      obtain ⟨u0, hu0⟩ : ∃ u, us[0]? = some u := ⟨_, List.getElem?_eq_getElem (by omega)⟩
      have hvb : vb ≠ b := by
        rintro rfl
        have := (hat 0 u0 hu0).2
        omega
      have hcs : ∀ j v, arr[j]? = some v → M.w.cell? ⟨b, 0 + j, none⟩ = some v := fun j v hj => by rw [Nat.zero_add]; exact hrow.cell hj
      obtain ⟨tA, kA, hsa, hkA⟩ := shape_cell (hvs 0 u0 hu0)
      obtain ⟨tB, kB, hsb⟩ : ∃ t k, M.w.shape? b = some (t, k) := by
        obtain ⟨cur, e', h1, _⟩ := hsz
        exact ⟨e', cur.size, by simp [World.shape?, h1]⟩
      have hc63 : c ≤ 9223372036854775807 := by unfold maxLen at hcm; omega
      have hent : ∀ vs, (callFunc 82 vs).run Try.prog M.w = .ok (.enter 82 vs) M.w := fun vs => by
        simp [callFunc, Try.func82]
        rw [if_neg (by decide), if_neg (by decide)]
      refine .inr ⟨hent _, ?_⟩
      by_cases hroom : n + m ≤ c
      · by_cases hin : i < n
        · refine (insert_shift_s b 0 n c i vb voff m vc arr us M.w hin b5 hroom hc63 hvb hl hul hcs (fun j hj => sized_some hsz (by omega)) (fun j => sized_fz hsz _) hvs hr.one j6.one tA tB kA kB hsa hsb hkA).mono ?_
          rintro e' w' ⟨rfl, rfl⟩
          subst hul
          have hU' : Upd b M.w ((M.w.drew.setCells b (0 + (i + us.length)) (arr.drop i)).setCells b (0 + i) us) := ((Upd.refl b M.w).drew.step _ _).step _ _
          have hm := hU'.move hU
          exact ⟨_, rfl, M.U, hm, b, c, e, _, rfl, .inl rfl, insert_room_row hrow hsz hl hi hroom, (((hr.take i).append j6).append (hr.drop i)).mono hm.le, hU, hroom, hcm, hU'.sized hsz⟩
        · obtain rfl : i = n := by omega
          refine (insert_end_room_s b 0 i c vb voff m vc us M.w b5 hroom hc63 hul (fun j hj => sized_some hsz (by omega)) (fun j => sized_fz hsz _) hvs j6.one).mono ?_
          rintro e' w' ⟨rfl, rfl⟩
          subst hul
          have hU' : Upd b M.w (M.w.setCells b (0 + i) us) := (Upd.refl b M.w).step _ _
          have hm := hU'.move hU
          refine ⟨_, rfl, M.U, hm, b, c, e, arr ++ us, rfl, .inl rfl, end_room_row hrow hsz hl hroom, ?_, hU, hroom, hcm, hU'.sized hsz⟩
          rw [List.take_of_length_le (by omega), List.drop_eq_nil_of_le (by omega), List.append_nil]
          exact (hr.append j6).mono hm.le
      · have hGn : n + m ≤ grownCap M.w (n + m) c 9 := grownCap_ge M.w _ _ _
        have hGm : grownCap M.w (n + m) c 9 ≤ maxLen := grownCap_le_maxLen M.w (n + m) c 9 (by unfold maxLen; omega)
        obtain ⟨G, hG⟩ : ∃ G, G = grownCap M.w (n + m) c 9 := ⟨_, rfl⟩
        by_cases hin : i < n
        · refine (insert_grow_s b 0 n c i vb voff m vc arr us M.w hin b5 hnc (by omega) b6 hl hul hcs hvs hr.one j6.one).mono ?_
          rintro e' w' ⟨rfl, rfl⟩
          rw [← hG] at hGn hGm ⊢
          subst hul
          obtain ⟨q1, q2⟩ := grow_row (w := M.w) (vs := us) (E := 9) hl hi (Builtin.zeroCells (Value.cells (.string ByteArray.empty)) (n + us.length - i)) (Builtin.zeroCells (Value.cells (.string ByteArray.empty)) (G - (n + us.length))) (zeroCells_one _ (by decide) _)
          have hm := new_move (M := M) (((Below.refl _ M.w).alloc (Nat.le_refl _) _).trans (q2.below (Nat.le_refl _)))
          refine ⟨_, rfl, _, hm.wide b, M.w.heap.size, G, _, _, rfl, .inr (Nat.le_refl _), q1, (((hr.take i).append j6).append (hr.drop i)).mono hm.le, by simp, hGn, hGm, q2.sized ⟨_, _, heap_alloc_new _ _, ?_⟩⟩
          simp only [Array.size_append, zeroCells_one _ (show (Value.cells (.string ByteArray.empty)).size = 1 by decide), List.size_toArray, List.length_take]
          omega
        · obtain rfl : i = n := by omega
          refine (insert_end_grow_s b 0 i c vb voff m vc arr us M.w b5 hnc (by omega) b6 hl hul hcs hvs j6.one).mono ?_
          rintro e' w' ⟨rfl, rfl⟩
          rw [← hG] at hGn hGm ⊢
          have hm := new_move (M := M) (((Below.refl _ M.w).drew.alloc (Nat.le_refl _) (.cells ((arr ++ us).toArray ++ Builtin.zeroCells (Value.cells (.string ByteArray.empty)) (G - (i + m))) 9)))
          refine ⟨_, rfl, _, hm.wide b, M.w.heap.size, G, 9, arr ++ us, rfl, .inr (Nat.le_refl _), ⟨(Builtin.zeroCells (Value.cells (.string ByteArray.empty)) (G - (i + m))).toList, ?_⟩, ?_, by simp, hGn, hGm, ⟨_, _, heap_alloc_new _ _, ?_⟩⟩
          · refine (heap_alloc_new M.w.drew _).trans ?_
            simp
          · rw [List.take_of_length_le (by omega), List.drop_eq_nil_of_le (by omega), List.append_nil]
            exact (hr.append j6).mono hm.le
          · simp only [Array.size_append, zeroCells_one _ (show (Value.cells (.string ByteArray.empty)).size = 1 by decide), List.size_toArray, List.length_append]
            omega
    · cases h

def p_insert_i : CFn := ⟨fun sz n cells xs kk => match xs with | [.int .i64 i, .sl _ 1 m vs] => bif decide (sz = 1) && (decide (cells.length = n) && (decide (0 ≤ i) && (decide (i ≤ n) && (decide (0 < m) && decide (n + m ≤ 1000000))))) then kk (n + m) (cells.take i.toNat ++ vs ++ cells.drop i.toNat) else none | _ => none⟩
set_option maxHeartbeats 4000000 in
theorem cok_insert_i {NG : Nat} {W : World → Prop} : COK NG W 83 p_insert_i where
  nat := by
    intro R sz n cells xs kk
    simp only [p_insert_i]
    split
    · rename_i i _ m vs
      rcases (decide (sz = 1) && (decide (cells.length = n) && (decide (0 ≤ i) && (decide (i ≤ n) && (decide (0 < m) && decide (n + m ≤ 1000000)))))) with _ | _ <;> rfl
    · rfl
  call := by
    intro M b c e arr sz n cells xs vs n' cells' hW hng hG hrow hr hU hNG hnc hcm hsz hrT h
    simp only [p_insert_i] at h
    split at h
    · rename_i i nl m ws
      rcases hb : (decide (sz = 1) && (decide (cells.length = n) && (decide (0 ≤ i) && (decide (i ≤ n) && (decide (0 < m) && decide (n + m ≤ 1000000)))))) with _ | _ <;> rw [hb] at h
      · cases h
      simp only [cond_true, Option.some.injEq, Prod.mk.injEq] at h
      obtain ⟨rfl, rfl⟩ := h
      simp only [Bool.and_eq_true, decide_eq_true_eq] at hb
      obtain ⟨b1, b2, b3, b4, b5, b6⟩ := hb
      obtain ⟨u1, u2, rfl, g1, g2⟩ := relT2 hrT
      simp only [RelD] at g1 g2
      subst g1
      obtain ⟨A, vc, us, rfl, j1, j2, j3, j4, j5, j6, j7⟩ := g2
      have hul : us.length = m := by rw [← j6.length, j5]; omega
      obtain rfl | ⟨vb, voff, rfl, hat⟩ := j7
      · simp at hul; omega
      obtain ⟨i, rfl⟩ : ∃ m : Nat, i = (m : Int) := ⟨i.toNat, by omega⟩
      have hl : arr.length = n := by rw [← hr.length, b2]
      have hi : i ≤ n := by omega
      subst b1
      simp only [Int.toNat_natCast]
      have hvs : ∀ j v, us[j]? = some v → M.w.cell? ⟨vb, voff + j, none⟩ = some v := fun j v hj => (hat j v hj).1
      obtain ⟨u0, hu0⟩ : ∃ u, us[0]? = some u := ⟨_, List.getElem?_eq_getElem (by omega)⟩
      have hvb : vb ≠ b := by
        rintro rfl
        have := (hat 0 u0 hu0).2
        omega
      have hcs : ∀ j v, arr[j]? = some v → M.w.cell? ⟨b, 0 + j, none⟩ = some v := fun j v hj => by rw [Nat.zero_add]; exact hrow.cell hj
      obtain ⟨tA, kA, hsa, hkA⟩ := shape_cell (hvs 0 u0 hu0)
      obtain ⟨tB, kB, hsb⟩ : ∃ t k, M.w.shape? b = some (t, k) := by
        obtain ⟨cur, e', h1, _⟩ := hsz
        exact ⟨e', cur.size, by simp [World.shape?, h1]⟩
      have hc63 : c ≤ 9223372036854775807 := by unfold maxLen at hcm; omega
      have hent : ∀ vs, (callFunc 83 vs).run Try.prog M.w = .ok (.enter 83 vs) M.w := fun vs => by
        simp [callFunc, Try.func83]
        rw [if_neg (by decide), if_neg (by decide)]
      refine .inr ⟨hent _, ?_⟩
      by_cases hroom : n + m ≤ c
      · by_cases hin : i < n
        · refine (insert_shift_i b 0 n c i vb voff m vc arr us M.w hin b5 hroom hc63 hvb hl hul hcs (fun j hj => sized_some hsz (by omega)) (fun j => sized_fz hsz _) hvs hr.one j6.one tA tB kA kB hsa hsb hkA).mono ?_
          rintro e' w' ⟨rfl, rfl⟩
          subst hul
          have hU' : Upd b M.w ((M.w.drew.setCells b (0 + (i + us.length)) (arr.drop i)).setCells b (0 + i) us) := ((Upd.refl b M.w).drew.step _ _).step _ _
          have hm := hU'.move hU
          exact ⟨_, rfl, M.U, hm, b, c, e, _, rfl, .inl rfl, insert_room_row hrow hsz hl hi hroom, (((hr.take i).append j6).append (hr.drop i)).mono hm.le, hU, hroom, hcm, hU'.sized hsz⟩
        · obtain rfl : i = n := by omega
          refine (insert_end_room_i b 0 i c vb voff m vc us M.w b5 hroom hc63 hul (fun j hj => sized_some hsz (by omega)) (fun j => sized_fz hsz _) hvs j6.one).mono ?_
          rintro e' w' ⟨rfl, rfl⟩
          subst hul
          have hU' : Upd b M.w (M.w.setCells b (0 + i) us) := (Upd.refl b M.w).step _ _
          have hm := hU'.move hU
          refine ⟨_, rfl, M.U, hm, b, c, e, arr ++ us, rfl, .inl rfl, end_room_row hrow hsz hl hroom, ?_, hU, hroom, hcm, hU'.sized hsz⟩
          rw [List.take_of_length_le (by omega), List.drop_eq_nil_of_le (by omega), List.append_nil]
          exact (hr.append j6).mono hm.le
      · have hGn : n + m ≤ grownCap M.w (n + m) c 3 := grownCap_ge M.w _ _ _
        have hGm : grownCap M.w (n + m) c 3 ≤ maxLen := grownCap_le_maxLen M.w (n + m) c 3 (by unfold maxLen; omega)
        obtain ⟨G, hG⟩ : ∃ G, G = grownCap M.w (n + m) c 3 := ⟨_, rfl⟩
        by_cases hin : i < n
        · refine (insert_grow_i b 0 n c i vb voff m vc arr us M.w hin b5 hnc (by omega) b6 hl hul hcs hvs hr.one j6.one).mono ?_
          rintro e' w' ⟨rfl, rfl⟩
          rw [← hG] at hGn hGm ⊢
          subst hul
          obtain ⟨q1, q2⟩ := grow_row (w := M.w) (vs := us) (E := 3) hl hi (Builtin.zeroCells (Value.cells (.int .i64 0)) (n + us.length - i)) (Builtin.zeroCells (Value.cells (.int .i64 0)) (G - (n + us.length))) (zeroCells_one _ (by decide) _)
          have hm := new_move (M := M) (((Below.refl _ M.w).alloc (Nat.le_refl _) _).trans (q2.below (Nat.le_refl _)))
          refine ⟨_, rfl, _, hm.wide b, M.w.heap.size, G, _, _, rfl, .inr (Nat.le_refl _), q1, (((hr.take i).append j6).append (hr.drop i)).mono hm.le, by simp, hGn, hGm, q2.sized ⟨_, _, heap_alloc_new _ _, ?_⟩⟩
          simp only [Array.size_append, zeroCells_one _ (show (Value.cells (.int .i64 0)).size = 1 by decide), List.size_toArray, List.length_take]
          omega
        · obtain rfl : i = n := by omega
          refine (insert_end_grow_i b 0 i c vb voff m vc arr us M.w b5 hnc (by omega) b6 hl hul hcs hvs j6.one).mono ?_
          rintro e' w' ⟨rfl, rfl⟩
          rw [← hG] at hGn hGm ⊢
          have hm := new_move (M := M) (((Below.refl _ M.w).drew.alloc (Nat.le_refl _) (.cells ((arr ++ us).toArray ++ Builtin.zeroCells (Value.cells (.int .i64 0)) (G - (i + m))) 3)))
          refine ⟨_, rfl, _, hm.wide b, M.w.heap.size, G, 3, arr ++ us, rfl, .inr (Nat.le_refl _), ⟨(Builtin.zeroCells (Value.cells (.int .i64 0)) (G - (i + m))).toList, ?_⟩, ?_, by simp, hGn, hGm, ⟨_, _, heap_alloc_new _ _, ?_⟩⟩
          · refine (heap_alloc_new M.w.drew _).trans ?_
            simp
          · rw [List.take_of_length_le (by omega), List.drop_eq_nil_of_le (by omega), List.append_nil]
            exact (hr.append j6).mono hm.le
          · simp only [Array.size_append, zeroCells_one _ (show (Value.cells (.int .i64 0)).size = 1 by decide), List.size_toArray, List.length_append]
            omega
    · cases h
end Go.Proofs.Ytmacjkiamejcnaa
