/-
  slices.Grow of the nil slice: room for so many elements (walked; printed by wip/gen/rk.py out of XGr).
-/
import Derived.Test.YtmacjkiamejcnaaSl
import Derived.Lib.AppendZerosOnto
import Derived.Lib.SliceRun
import Derived.Shelf.RegionOpenPlain
set_option linter.unusedVariables false
set_option linter.unusedSimpArgs false
set_option maxRecDepth 100000
namespace Go.Proofs.Ytmacjkiamejcnaa
open Go.RowKit Go.Lib

theorem zeroCells_size (cs : Array Value) (n : Nat) : (Builtin.zeroCells cs n).size = n * cs.size := by
  simp [Builtin.zeroCells]
theorem cond_nat' {R : Type} {b : Bool} {x : PV} {k : PV → Option R} : (bif b then k x else none) = (bif b then some x else none).bind k := by cases b <;> rfl
set_option maxHeartbeats 4000000 in
theorem grow_s (n : Nat) (h0 : 0 < n) (hn : n ≤ 1000000) (w : World) :
    Calls Try.prog 116 #[.slice none 0 0, .int .i64 n] w fun e w' => ∃ G arr, n ≤ G ∧ G ≤ maxLen ∧ arr.size = G * 1 ∧ e = .returned (.slice (some ⟨w.heap.size, 0, none⟩) 0 G) ∧ w' = w.drew.alloc (.cells arr 9) := by
  have h1 : ¬ ((n : Int) < 0) := by omega
  have h2 : wrap64 ((0 : Int) - (0 : Int)) = 0 := by unfold wrap64; omega
  have h3 : wrap64 ((n : Int) - 0) = (n : Int) := by unfold wrap64; omega
  have h4 : (n : Int) > 0 := by omega
  obtain ⟨i0, hi0, hs0, hb0, z, hz0, hzs⟩ : ∃ i0, Try.prog.info? 9 = some i0 ∧ i0.size = 1 ∧ i0.bytes ≤ 200 ∧ ∃ z, i0.zero = some z ∧ z.cells.size = 1 := ⟨Try.t9, by kernel_rfl, by kernel_rfl, by decide, _, rfl, by decide⟩
  have hbig : n * i0.bytes ≤ 140737488355328 := Nat.le_trans (Nat.mul_le_mul hn hb0) (by decide)
  have hrz : ∀ ty, (Builtin.append_ #[22, 3] ty #[.slice none 0 0, .int .i64 (n : Int)]).run Try.prog w =
      .ok (.slice (some ⟨w.heap.size, 0, none⟩) n (grownCap w n 0 9)) (w.drew.alloc (.cells (#[] ++ Builtin.zeroCells z.cells n ++ Builtin.zeroCells z.cells (grownCap w n 0 9 - n)) 9)) := fun ty => by
    have h := Lib.run_append_grow_zeros w 22 3 ty 9 i0 z .i64 .i64 Try.underlying22 Try.underlying3 hi0 hz0 none 0 0 [] (run_firstCells_none w.drew i0.size 0 0 0) n h0 (by omega) (by omega) (by omega) (by omega)
      (by rw [Nat.zero_add]; exact growslice_fits (by omega) hbig)
    rw [Nat.zero_add] at h
    exact h
  have hGn : n ≤ grownCap w n 0 9 := grownCap_ge w _ _ _
  have hGm : grownCap w n 0 9 ≤ maxLen := grownCap_le_maxLen w n 0 9 (by unfold maxLen; omega)
  obtain ⟨G, hG⟩ : ∃ G, G = grownCap w n 0 9 := ⟨_, rfl⟩
  rw [← hG] at hrz hGn hGm
  have hG63 : G ≤ 9223372036854775807 := by unfold maxLen at hGm; omega
  clear hG
  have key : Calls Try.prog 116 #[.slice none 0 0, .int .i64 n] w fun e w' => e = .returned (.slice (some ⟨w.heap.size, 0, none⟩) 0 G) ∧ w' = w.drew.alloc (.cells (#[] ++ Builtin.zeroCells z.cells n ++ Builtin.zeroCells z.cells (G - n)) 9) := by
    go_enter Try.func116, Try.ntmps116
    go_wp2_with (at_builtin; refine Lib.wpList_append_run _ rfl _ _ _ _ rfl _ _ rfl rfl _ _ (hrz _) ?_)
    all_goals (go_ret; exact ⟨rfl, rfl⟩)
  exact key.mono fun e w' ⟨h1, h2⟩ => ⟨G, _, hGn, hGm, by
    simp only [Array.size_append, zeroCells_size, hzs]
    simp only [List.size_toArray, List.length_nil]
    rw [Nat.zero_add, ← Nat.add_mul]
    congr 1; omega, h1, h2⟩
def p_grow_s : PFn := ⟨fun xs k => match xs with | [.sl (some true) 1 0 [], .int .i64 n] => bif decide (0 < n) && decide (n ≤ 1000000) then k (.sl (some false) 1 0 []) else none | _ => none, true⟩
theorem ok_grow_s {NG : Nat} {W : World → Prop} : FOK NG W 116 p_grow_s where
  nat := by
    intro R xs k
    simp only [p_grow_s]
    split
    · exact Go.Proofs.Ytmacjkiamejcnaa.cond_nat'
    · rfl
  call := by
    intro M xs vs r hW hng hG hr h
    simp only [p_grow_s] at h
    split at h
    · rename_i n
      rcases hb : (decide (0 < n) && decide (n ≤ 1000000)) with _ | _ <;> rw [hb] at h
      · cases h
      simp only [Bool.and_eq_true, decide_eq_true_eq] at hb
      injection h with h
      subst h
      simp only [RelT, RelD] at hr
      obtain ⟨_, _, rfl, ⟨A, c, cs, rfl, h1, h2, h3, h4, h5, h6, h7⟩, _, _, rfl, rfl, rfl⟩ := hr
      have hA := h3 true rfl
      obtain rfl : A = none := by cases A <;> simp_all
      obtain rfl := h4 rfl
      obtain ⟨m, rfl⟩ : ∃ m : Nat, n = (m : Int) := ⟨n.toNat, by omega⟩
      refine .inr ⟨?_, (grow_s m (by omega) (by omega) M.w).mono ?_⟩
      · show (callFunc _ _).run Try.prog M.w = _
        simp [callFunc, Try.func116]
        rw [if_neg (by decide), if_neg (by decide)]
      · rintro e w' ⟨G, arr, g1, g2, g3, rfl, rfl⟩
        have hb1 : Below M.w.heap.size M.w M.w.drew := (Below.refl _ _).drew
        have hm : Move M (M.lay (M.w.drew.alloc (.cells arr 9)) M.w.heap.size 0) none := Move.lay (below_alloc hb1 _) (Nat.le_refl _) 0
        refine ⟨_, rfl, _, hm, ?_, fun _ => ⟨_, _, _, _, rfl, .inr ⟨M.w.heap.size, Nat.le_refl _, ⟨0, G, arr, 9, rfl, heap_alloc_new _ _, Nat.zero_le _, g2, g3, ?_⟩⟩⟩⟩
        · simp only [RelD]
          exact ⟨_, G, [], rfl, Nat.zero_le _, g2, (fun b hb => (by cases hb; rfl)), (fun h => (by cases h)), rfl, rfl, Or.inl rfl⟩
        · simp [Mem.lay]
    · cases h
set_option maxHeartbeats 4000000 in
theorem grow_i (n : Nat) (h0 : 0 < n) (hn : n ≤ 1000000) (w : World) :
    Calls Try.prog 117 #[.slice none 0 0, .int .i64 n] w fun e w' => ∃ G arr, n ≤ G ∧ G ≤ maxLen ∧ arr.size = G * 1 ∧ e = .returned (.slice (some ⟨w.heap.size, 0, none⟩) 0 G) ∧ w' = w.drew.alloc (.cells arr 3) := by
  have h1 : ¬ ((n : Int) < 0) := by omega
  have h2 : wrap64 ((0 : Int) - (0 : Int)) = 0 := by unfold wrap64; omega
  have h3 : wrap64 ((n : Int) - 0) = (n : Int) := by unfold wrap64; omega
  have h4 : (n : Int) > 0 := by omega
  obtain ⟨i0, hi0, hs0, hb0, z, hz0, hzs⟩ : ∃ i0, Try.prog.info? 3 = some i0 ∧ i0.size = 1 ∧ i0.bytes ≤ 200 ∧ ∃ z, i0.zero = some z ∧ z.cells.size = 1 := ⟨Try.t3, by kernel_rfl, by kernel_rfl, by decide, _, rfl, by decide⟩
  have hbig : n * i0.bytes ≤ 140737488355328 := Nat.le_trans (Nat.mul_le_mul hn hb0) (by decide)
  have hrz : ∀ ty, (Builtin.append_ #[50, 3] ty #[.slice none 0 0, .int .i64 (n : Int)]).run Try.prog w =
      .ok (.slice (some ⟨w.heap.size, 0, none⟩) n (grownCap w n 0 3)) (w.drew.alloc (.cells (#[] ++ Builtin.zeroCells z.cells n ++ Builtin.zeroCells z.cells (grownCap w n 0 3 - n)) 3)) := fun ty => by
    have h := Lib.run_append_grow_zeros w 50 3 ty 3 i0 z .i64 .i64 Try.underlying50 Try.underlying3 hi0 hz0 none 0 0 [] (run_firstCells_none w.drew i0.size 0 0 0) n h0 (by omega) (by omega) (by omega) (by omega)
      (by rw [Nat.zero_add]; exact growslice_fits (by omega) hbig)
    rw [Nat.zero_add] at h
    exact h
  have hGn : n ≤ grownCap w n 0 3 := grownCap_ge w _ _ _
  have hGm : grownCap w n 0 3 ≤ maxLen := grownCap_le_maxLen w n 0 3 (by unfold maxLen; omega)
  obtain ⟨G, hG⟩ : ∃ G, G = grownCap w n 0 3 := ⟨_, rfl⟩
  rw [← hG] at hrz hGn hGm
  have hG63 : G ≤ 9223372036854775807 := by unfold maxLen at hGm; omega
  clear hG
  have key : Calls Try.prog 117 #[.slice none 0 0, .int .i64 n] w fun e w' => e = .returned (.slice (some ⟨w.heap.size, 0, none⟩) 0 G) ∧ w' = w.drew.alloc (.cells (#[] ++ Builtin.zeroCells z.cells n ++ Builtin.zeroCells z.cells (G - n)) 3) := by
    go_enter Try.func117, Try.ntmps117
    go_wp2_with (at_builtin; refine Lib.wpList_append_run _ rfl _ _ _ _ rfl _ _ rfl rfl _ _ (hrz _) ?_)
    all_goals (go_ret; exact ⟨rfl, rfl⟩)
  exact key.mono fun e w' ⟨h1, h2⟩ => ⟨G, _, hGn, hGm, by
    simp only [Array.size_append, zeroCells_size, hzs]
    simp only [List.size_toArray, List.length_nil]
    rw [Nat.zero_add, ← Nat.add_mul]
    congr 1; omega, h1, h2⟩
def p_grow_i : PFn := ⟨fun xs k => match xs with | [.sl (some true) 1 0 [], .int .i64 n] => bif decide (0 < n) && decide (n ≤ 1000000) then k (.sl (some false) 1 0 []) else none | _ => none, true⟩
theorem ok_grow_i {NG : Nat} {W : World → Prop} : FOK NG W 117 p_grow_i where
  nat := by
    intro R xs k
    simp only [p_grow_i]
    split
    · exact Go.Proofs.Ytmacjkiamejcnaa.cond_nat'
    · rfl
  call := by
    intro M xs vs r hW hng hG hr h
    simp only [p_grow_i] at h
    split at h
    · rename_i n
      rcases hb : (decide (0 < n) && decide (n ≤ 1000000)) with _ | _ <;> rw [hb] at h
      · cases h
      simp only [Bool.and_eq_true, decide_eq_true_eq] at hb
      injection h with h
      subst h
      simp only [RelT, RelD] at hr
      obtain ⟨_, _, rfl, ⟨A, c, cs, rfl, h1, h2, h3, h4, h5, h6, h7⟩, _, _, rfl, rfl, rfl⟩ := hr
      have hA := h3 true rfl
      obtain rfl : A = none := by cases A <;> simp_all
      obtain rfl := h4 rfl
      obtain ⟨m, rfl⟩ : ∃ m : Nat, n = (m : Int) := ⟨n.toNat, by omega⟩
      refine .inr ⟨?_, (grow_i m (by omega) (by omega) M.w).mono ?_⟩
      · show (callFunc _ _).run Try.prog M.w = _
        simp [callFunc, Try.func117]
        rw [if_neg (by decide), if_neg (by decide)]
      · rintro e w' ⟨G, arr, g1, g2, g3, rfl, rfl⟩
        have hb1 : Below M.w.heap.size M.w M.w.drew := (Below.refl _ _).drew
        have hm : Move M (M.lay (M.w.drew.alloc (.cells arr 3)) M.w.heap.size 0) none := Move.lay (below_alloc hb1 _) (Nat.le_refl _) 0
        refine ⟨_, rfl, _, hm, ?_, fun _ => ⟨_, _, _, _, rfl, .inr ⟨M.w.heap.size, Nat.le_refl _, ⟨0, G, arr, 3, rfl, heap_alloc_new _ _, Nat.zero_le _, g2, g3, ?_⟩⟩⟩⟩
        · simp only [RelD]
          exact ⟨_, G, [], rfl, Nat.zero_le _, g2, (fun b hb => (by cases hb; rfl)), (fun h => (by cases h)), rfl, rfl, Or.inl rfl⟩
        · simp [Mem.lay]
    · cases h
set_option maxHeartbeats 4000000 in
theorem grow_n (n : Nat) (h0 : 0 < n) (hn : n ≤ 1000000) (w : World) :
    Calls Try.prog 118 #[.slice none 0 0, .int .i64 n] w fun e w' => ∃ G arr, n ≤ G ∧ G ≤ maxLen ∧ arr.size = G * 1 ∧ e = .returned (.slice (some ⟨w.heap.size, 0, none⟩) 0 G) ∧ w' = w.drew.alloc (.cells arr 93) := by
  have h1 : ¬ ((n : Int) < 0) := by omega
  have h2 : wrap64 ((0 : Int) - (0 : Int)) = 0 := by unfold wrap64; omega
  have h3 : wrap64 ((n : Int) - 0) = (n : Int) := by unfold wrap64; omega
  have h4 : (n : Int) > 0 := by omega
  obtain ⟨i0, hi0, hs0, hb0, z, hz0, hzs⟩ : ∃ i0, Try.prog.info? 93 = some i0 ∧ i0.size = 1 ∧ i0.bytes ≤ 200 ∧ ∃ z, i0.zero = some z ∧ z.cells.size = 1 := ⟨Try.t93, by kernel_rfl, by kernel_rfl, by decide, _, rfl, by decide⟩
  have hbig : n * i0.bytes ≤ 140737488355328 := Nat.le_trans (Nat.mul_le_mul hn hb0) (by decide)
  have hrz : ∀ ty, (Builtin.append_ #[99, 3] ty #[.slice none 0 0, .int .i64 (n : Int)]).run Try.prog w =
      .ok (.slice (some ⟨w.heap.size, 0, none⟩) n (grownCap w n 0 93)) (w.drew.alloc (.cells (#[] ++ Builtin.zeroCells z.cells n ++ Builtin.zeroCells z.cells (grownCap w n 0 93 - n)) 93)) := fun ty => by
    have h := Lib.run_append_grow_zeros w 99 3 ty 93 i0 z .i64 .i64 Try.underlying99 Try.underlying3 hi0 hz0 none 0 0 [] (run_firstCells_none w.drew i0.size 0 0 0) n h0 (by omega) (by omega) (by omega) (by omega)
      (by rw [Nat.zero_add]; exact growslice_fits (by omega) hbig)
    rw [Nat.zero_add] at h
    exact h
  have hGn : n ≤ grownCap w n 0 93 := grownCap_ge w _ _ _
  have hGm : grownCap w n 0 93 ≤ maxLen := grownCap_le_maxLen w n 0 93 (by unfold maxLen; omega)
  obtain ⟨G, hG⟩ : ∃ G, G = grownCap w n 0 93 := ⟨_, rfl⟩
  rw [← hG] at hrz hGn hGm
  have hG63 : G ≤ 9223372036854775807 := by unfold maxLen at hGm; omega
  clear hG
  have key : Calls Try.prog 118 #[.slice none 0 0, .int .i64 n] w fun e w' => e = .returned (.slice (some ⟨w.heap.size, 0, none⟩) 0 G) ∧ w' = w.drew.alloc (.cells (#[] ++ Builtin.zeroCells z.cells n ++ Builtin.zeroCells z.cells (G - n)) 93) := by
    go_enter Try.func118, Try.ntmps118
    go_wp2_with (at_builtin; refine Lib.wpList_append_run _ rfl _ _ _ _ rfl _ _ rfl rfl _ _ (hrz _) ?_)
    all_goals (go_ret; exact ⟨rfl, rfl⟩)
  exact key.mono fun e w' ⟨h1, h2⟩ => ⟨G, _, hGn, hGm, by
    simp only [Array.size_append, zeroCells_size, hzs]
    simp only [List.size_toArray, List.length_nil]
    rw [Nat.zero_add, ← Nat.add_mul]
    congr 1; omega, h1, h2⟩
def p_grow_n : PFn := ⟨fun xs k => match xs with | [.sl (some true) 1 0 [], .int .i64 n] => bif decide (0 < n) && decide (n ≤ 1000000) then k (.sl (some false) 1 0 []) else none | _ => none, true⟩
theorem ok_grow_n {NG : Nat} {W : World → Prop} : FOK NG W 118 p_grow_n where
  nat := by
    intro R xs k
    simp only [p_grow_n]
    split
    · exact Go.Proofs.Ytmacjkiamejcnaa.cond_nat'
    · rfl
  call := by
    intro M xs vs r hW hng hG hr h
    simp only [p_grow_n] at h
    split at h
    · rename_i n
      rcases hb : (decide (0 < n) && decide (n ≤ 1000000)) with _ | _ <;> rw [hb] at h
      · cases h
      simp only [Bool.and_eq_true, decide_eq_true_eq] at hb
      injection h with h
      subst h
      simp only [RelT, RelD] at hr
      obtain ⟨_, _, rfl, ⟨A, c, cs, rfl, h1, h2, h3, h4, h5, h6, h7⟩, _, _, rfl, rfl, rfl⟩ := hr
      have hA := h3 true rfl
      obtain rfl : A = none := by cases A <;> simp_all
      obtain rfl := h4 rfl
      obtain ⟨m, rfl⟩ : ∃ m : Nat, n = (m : Int) := ⟨n.toNat, by omega⟩
      refine .inr ⟨?_, (grow_n m (by omega) (by omega) M.w).mono ?_⟩
      · show (callFunc _ _).run Try.prog M.w = _
        simp [callFunc, Try.func118]
        rw [if_neg (by decide), if_neg (by decide)]
      · rintro e w' ⟨G, arr, g1, g2, g3, rfl, rfl⟩
        have hb1 : Below M.w.heap.size M.w M.w.drew := (Below.refl _ _).drew
        have hm : Move M (M.lay (M.w.drew.alloc (.cells arr 93)) M.w.heap.size 0) none := Move.lay (below_alloc hb1 _) (Nat.le_refl _) 0
        refine ⟨_, rfl, _, hm, ?_, fun _ => ⟨_, _, _, _, rfl, .inr ⟨M.w.heap.size, Nat.le_refl _, ⟨0, G, arr, 93, rfl, heap_alloc_new _ _, Nat.zero_le _, g2, g3, ?_⟩⟩⟩⟩
        · simp only [RelD]
          exact ⟨_, G, [], rfl, Nat.zero_le _, g2, (fun b hb => (by cases hb; rfl)), (fun h => (by cases h)), rfl, rfl, Or.inl rfl⟩
        · simp [Mem.lay]
    · cases h
end Go.Proofs.Ytmacjkiamejcnaa
