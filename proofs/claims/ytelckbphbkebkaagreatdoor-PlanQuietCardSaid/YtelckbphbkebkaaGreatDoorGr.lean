/-
  slices.Grow of the nil slice: room for so many elements (walked).
-/
import Derived.Test.YtelckbphbkebkaaGreatDoorPGw
import Derived.Lib.AppendZerosOnto
import Derived.Lib.SliceRun
import Derived.Shelf.RegionOpenPlain
set_option linter.unusedVariables false
set_option linter.unusedSimpArgs false
set_option maxRecDepth 100000
namespace Go.Proofs.YtelckbphbkebkaaGreatDoor
open Go.RowKit Go.Lib

theorem zeroCells_size (cs : Array Value) (n : Nat) : (Builtin.zeroCells cs n).size = n * cs.size := by
  simp [Builtin.zeroCells]
set_option maxHeartbeats 4000000 in
theorem grow_node (n : Nat) (h0 : 0 < n) (hn : n ≤ 1000000) (w : World) :
    Calls Tryz.prog 109 #[.slice none 0 0, .int .i64 n] w fun e w' => ∃ G arr, n ≤ G ∧ G ≤ maxLen ∧ arr.size = G * 11 ∧ e = .returned (.slice (some ⟨w.heap.size, 0, none⟩) 0 G) ∧ w' = w.drew.alloc (.cells arr 30) := by
  have h1 : ¬ ((n : Int) < 0) := by omega
  have h2 : wrap64 ((0 : Int) - (0 : Int)) = 0 := by unfold wrap64; omega
  have h3 : wrap64 ((n : Int) - 0) = (n : Int) := by unfold wrap64; omega
  have h4 : (n : Int) > 0 := by omega
  obtain ⟨i0, hi0, hs0, hb0, z, hz0, hzs⟩ : ∃ i0, Tryz.prog.info? 30 = some i0 ∧ i0.size = 11 ∧ i0.bytes ≤ 200 ∧ ∃ z, i0.zero = some z ∧ z.cells.size = 11 := ⟨Tryz.t30, by kernel_rfl, by kernel_rfl, by decide, _, rfl, by decide⟩
  have hbig : n * i0.bytes ≤ 140737488355328 := Nat.le_trans (Nat.mul_le_mul hn hb0) (by decide)
  have hrz : ∀ ty, (Builtin.append_ #[28, 3] ty #[.slice none 0 0, .int .i64 (n : Int)]).run Tryz.prog w =
      .ok (.slice (some ⟨w.heap.size, 0, none⟩) n (grownCap w n 0 30)) (w.drew.alloc (.cells (#[] ++ Builtin.zeroCells z.cells n ++ Builtin.zeroCells z.cells (grownCap w n 0 30 - n)) 30)) := fun ty => by
    have h := Lib.run_append_grow_zeros w 28 3 ty 30 i0 z .i64 .i64 Tryz.underlying28 Tryz.underlying3 hi0 hz0 none 0 0 [] (run_firstCells_none w.drew i0.size 0 0 0) n h0 (by omega) (by omega) (by omega) (by omega)
      (by rw [Nat.zero_add]; exact growslice_fits (by omega) hbig)
    rw [Nat.zero_add] at h
    exact h
  have hGn : n ≤ grownCap w n 0 30 := grownCap_ge w _ _ _
  have hGm : grownCap w n 0 30 ≤ maxLen := grownCap_le_maxLen w n 0 30 (by unfold maxLen; omega)
  obtain ⟨G, hG⟩ : ∃ G, G = grownCap w n 0 30 := ⟨_, rfl⟩
  rw [← hG] at hrz hGn hGm
  have hG63 : G ≤ 9223372036854775807 := by unfold maxLen at hGm; omega
  clear hG
  have key : Calls Tryz.prog 109 #[.slice none 0 0, .int .i64 n] w fun e w' => e = .returned (.slice (some ⟨w.heap.size, 0, none⟩) 0 G) ∧ w' = w.drew.alloc (.cells (#[] ++ Builtin.zeroCells z.cells n ++ Builtin.zeroCells z.cells (G - n)) 30) := by
    go_enter Tryz.func109, Tryz.ntmps109
    go_wp2_with (at_builtin; refine Lib.wpList_append_run _ rfl _ _ _ _ rfl _ _ rfl rfl _ _ (hrz _) ?_)
    all_goals (go_ret; exact ⟨rfl, rfl⟩)
  exact key.mono fun e w' ⟨h1, h2⟩ => ⟨G, _, hGn, hGm, by
    simp only [Array.size_append, zeroCells_size, hzs]
    simp only [List.size_toArray, List.length_nil]
    rw [Nat.zero_add, ← Nat.add_mul]
    congr 1; omega, h1, h2⟩
theorem cond_nat' {R : Type} {b : Bool} {x : PV} {k : PV → Option R} : (bif b then k x else none) = (bif b then some x else none).bind k := by cases b <;> rfl
def p_grow : PFn := ⟨fun xs k => match xs with | [.sl (some true) 11 0 [], .int .i64 n] => bif decide (0 < n) && decide (n ≤ 1000000) then k (.sl (some false) 11 0 []) else none | _ => none, true⟩
theorem ok_grow {NG : Nat} {W : World → Prop} : FOK NG W 109 p_grow where
  nat := by
    intro R xs k
    simp only [p_grow]
    split
    · exact Go.Proofs.YtelckbphbkebkaaGreatDoor.cond_nat'
    · rfl
  call := by
    intro M xs vs r hW hng hG hr h
    simp only [p_grow] at h
    split at h
    · rename_i n
      rcases hb : (decide (0 < n) && decide (n ≤ 1000000)) with _ | _ <;> rw [hb] at h
      · cases h
      simp only [Bool.and_eq_true, decide_eq_true_eq] at hb
      injection h with h
      subst h
      simp only [RelT, RelD] at hr
      obtain ⟨_, _, rfl, ⟨A, c, cs, rfl, h1, h2, h3, h4, h5, h6, h7⟩, _, _, rfl, rfl, rfl⟩ := hr
      have hA := h3 true rfl
      obtain rfl : A = none := by cases A <;> simp_all
      obtain rfl := h4 rfl
      obtain ⟨m, rfl⟩ : ∃ m : Nat, n = (m : Int) := ⟨n.toNat, by omega⟩
      refine .inr ⟨?_, (grow_node m (by omega) (by omega) M.w).mono ?_⟩
      · show (callFunc _ _).run Tryz.prog M.w = _
        simp [callFunc, Tryz.func109]
        rw [if_neg (by decide), if_neg (by decide)]
      · rintro e w' ⟨G, arr, g1, g2, g3, rfl, rfl⟩
        have hb1 : Below M.w.heap.size M.w M.w.drew := (Below.refl _ _).drew
        have hm : Move M (M.lay (M.w.drew.alloc (.cells arr 30)) M.w.heap.size 0) none := Move.lay (below_alloc hb1 _) (Nat.le_refl _) 0
        refine ⟨_, rfl, _, hm, ?_, fun _ => ⟨_, _, _, _, rfl, .inr ⟨M.w.heap.size, Nat.le_refl _, ⟨0, G, arr, 30, rfl, heap_alloc_new _ _, Nat.zero_le _, g2, g3, ?_⟩⟩⟩⟩
        · simp only [RelD]
          exact ⟨_, G, [], rfl, Nat.zero_le _, g2, (fun b hb => (by cases hb; rfl)), (fun h => (by cases h)), rfl, rfl, Or.inl rfl⟩
        · simp [Mem.lay]
    · cases h
end Go.Proofs.YtelckbphbkebkaaGreatDoor
