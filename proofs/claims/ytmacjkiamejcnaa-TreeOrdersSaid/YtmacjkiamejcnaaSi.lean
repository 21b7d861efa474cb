/-
  slices.Replace, a road of it (walked; printed by wip/gen/re.py).
-/
import Derived.Test.YtmacjkiamejcnaaSe
set_option linter.unusedVariables false
set_option linter.unusedSimpArgs false
set_option maxRecDepth 1000000
namespace Go.Proofs.Ytmacjkiamejcnaa
open Go.RowKit Go.Lib
set_option maxHeartbeats 4000000 in
theorem replace_grow (b off d c i j vb voff m vc : Nat) (cs vs : List Value) (w : World) (hij : i < j) (hd : 0 < d) (hm : 0 < m) (hnc : j + d ≤ c) (hroom : c < i + m + d) (hbig : i + m + d ≤ 1000000)
    (hcl : cs.length = j + d) (hvl : vs.length = m)
    (hcs : ∀ j v, cs[j]? = some v → w.cell? ⟨b, off + j, none⟩ = some v)
    (hvs : ∀ j v, vs[j]? = some v → w.cell? ⟨vb, voff + j, none⟩ = some v) (h1c : ∀ v ∈ cs, v.oneCell' = true) (h1v : ∀ v ∈ vs, v.oneCell' = true) :
    Calls Try.prog 85 #[.slice (some ⟨b, off, none⟩) (j + d) c, .int .i64 i, .int .i64 j, .slice (some ⟨vb, voff, none⟩) m vc] w fun e w' =>
      e = .returned (.slice (some ⟨w.heap.size, 0, none⟩) (i + m + d) (grownCap w.drew (i + m + d) c 93)) ∧
      w' = (((w.drew.drew.alloc (.cells ((cs.take i).toArray ++ Builtin.zeroCells (Value.cells (.pointer none)) (i + m + d - i) ++ Builtin.zeroCells (Value.cells (.pointer none)) (grownCap w.drew (i + m + d) c 93 - (i + m + d))) 93)).setCells w.heap.size i vs).drew).setCells w.heap.size (i + m) (cs.drop j) := by
  have t24 := Try.underlying99
  have mixed := Go.Proofs.Ytmacjkiamejcnaa.mixed
  obtain ⟨i0, hi0, hz0, hzs, hzb⟩ := info_n
  have hby : (i + m + d) * i0.bytes ≤ 140737488355328 := Nat.le_trans (Nat.mul_le_mul hbig hzb) (by decide)
  have hsz : (Try.prog.info? 93).map (·.size) = some 1 := by rw [hi0]; simp [hzs]
  have hdl : (cs.drop j).length = d := by rw [List.length_drop, hcl]; omega
  have f1 : ¬ ((i : Int) = (j : Int)) := by omega
  have f2 : ¬ ((j : Int) = (j : Int) + (d : Int)) := by omega
  have f3 : IntKind.i64.wrap ((i : Int) + (m : Int)) = (i : Int) + (m : Int) := by rw [IntKind.wrap_i64]; omega
  have f4 : IntKind.i64.wrap ((i : Int) + (m : Int) + (d : Int)) = (i : Int) + (m : Int) + (d : Int) := by rw [IntKind.wrap_i64]; omega
  have f5 : ((i : Int) + (m : Int)).toNat = i + m := by omega
  have f6 : ((i : Int) + (m : Int) + (d : Int)).toNat = i + m + d := by omega
  have f9 : (0 : Int) ≤ (i : Int) + (m : Int) := by omega
  have f10 : (0 : Int) ≤ (i : Int) + (m : Int) + (d : Int) := by omega
  have q1 : (j : Int) ≤ (j : Int) + (d : Int) := by omega
  have q2 : (i : Int) ≤ (j : Int) + (d : Int) := by omega
  have q3 : (i : Int) ≤ (i : Int) + (m : Int) + (d : Int) := by omega
  have q4 : (i : Int) + (m : Int) ≤ (i : Int) + (m : Int) + (d : Int) := by omega
  have p1 : i ≤ c := by omega
  have p2 : j ≤ c := by omega
  have p3 : i ≤ j := by omega
  have p6 : i ≤ i + m + d := by omega
  have g1 : ¬ (c = i) := by omega
  have g2 : ¬ (c = j) := by omega
  have f7 : (c : Int) < (i : Int) + (m : Int) + (d : Int) := by omega
  have f11 : IntKind.i64.wrap ((i : Int) + (m : Int) + (d : Int) - (i : Int)) = (i : Int) + (m : Int) + (d : Int) - (i : Int) := by rw [IntKind.wrap_i64]; omega
  have hbw : b < w.heap.size := block_lt_of_cell (hcs 0 _ (List.getElem?_eq_getElem (by omega)))
  have hvw : vb < w.heap.size := block_lt_of_cell (hvs 0 _ (List.getElem?_eq_getElem (by omega)))
  have hkk : (i : Int) + (m : Int) + (d : Int) - (i : Int) = ((i + m + d - i : Nat) : Int) := by omega
  have hik : i + (i + m + d - i) = i + m + d := by omega
  have hold : (Builtin.firstCells i0.size i (.slice (some ⟨b, off, none⟩) i c)).run Try.prog w.drew.drew = .ok (cs.take i).toArray w.drew.drew := by
    rw [hzs]
    exact run_firstCells_some w.drew.drew 1 i ⟨b, off, none⟩ i c (cs.take i) (by rw [List.length_take]; omega) (fun j v hj => by
      rw [Addr.add_lit]
      rw [List.getElem?_take] at hj
      split at hj
      · exact hcs j v hj
      · cases hj)
  have hrz : ∀ ty, (Builtin.append_ #[99, 3] ty #[.slice (some ⟨b, off, none⟩) i c, .int .i64 ((i : Int) + (m : Int) + (d : Int) - (i : Int))]).run Try.prog w.drew =
      .ok (.slice (some ⟨w.heap.size, 0, none⟩) (i + m + d) (grownCap w.drew (i + m + d) c 93)) (w.drew.drew.alloc (.cells ((cs.take i).toArray ++ Builtin.zeroCells (Value.cells (.pointer none)) (i + m + d - i) ++ Builtin.zeroCells (Value.cells (.pointer none)) (grownCap w.drew (i + m + d) c 93 - (i + m + d))) 93)) := fun ty => by
    have h := Lib.run_append_grow_zeros w.drew 99 3 ty 93 i0 _ .i64 .i64 t24 Try.underlying3 hi0 hz0 (some ⟨b, off, none⟩) i c (cs.take i) hold (i + m + d - i) (by omega) (by omega) (by omega) (by omega) (by have : (i + m + d - i) * i0.bytes ≤ (i + m + d) * i0.bytes := Nat.mul_le_mul_right _ (by omega); omega) (by rw [hik]; exact growslice_fits hroom hby)
    rw [hik] at h
    rw [hkk]
    exact h
  obtain ⟨G, hG⟩ : ∃ G, G = grownCap w.drew (i + m + d) c 93 := ⟨_, rfl⟩
  rw [← hG] at hrz ⊢
  obtain ⟨ROW, hROW⟩ : ∃ ROW : Array Value, ROW = (cs.take i).toArray ++ Builtin.zeroCells (Value.cells (.pointer none)) (i + m + d - i) ++ Builtin.zeroCells (Value.cells (.pointer none)) (G - (i + m + d)) := ⟨_, rfl⟩
  rw [← hROW] at hrz ⊢
  have hRl : i + m + d ≤ ROW.size := by
    rw [hROW]
    simp [Builtin.zeroCells, Value.cells]
    omega
  obtain ⟨W1, hW1⟩ : ∃ W1, W1 = w.drew.drew.alloc (.cells ROW 93) := ⟨_, rfl⟩
  rw [← hW1] at hrz ⊢
  have hN : ∀ j, j < i + m + d → (W1.cell? ⟨w.heap.size, j, none⟩).isSome = true := fun j hj => by
    rw [hW1, World.cell?_alloc_at (w := w.drew.drew) ROW _ w.heap.size j rfl, Array.getElem?_eq_getElem (by omega)]; rfl
  have hNf : ∀ j, W1.frozen? ⟨w.heap.size, j, none⟩ = false := fun j => by rw [hW1]; exact World.frozen?_alloc_at (w := w.drew.drew) ROW _ w.heap.size j rfl
  have hOb : ∀ j v, w.cell? ⟨b, j, none⟩ = some v → W1.cell? ⟨b, j, none⟩ = some v := fun j v h => by rw [hW1, World.cell?_alloc_past (w := w.drew.drew) _ b j hbw]; exact h
  have hOv : ∀ j v, w.cell? ⟨vb, j, none⟩ = some v → W1.cell? ⟨vb, j, none⟩ = some v := fun j v h => by rw [hW1, World.cell?_alloc_past (w := w.drew.drew) _ vb j hvw]; exact h
  have hcpA : ∀ ty dc, (Builtin.copy_ #[99, 99] ty #[.slice (some ⟨w.heap.size, i, none⟩) (i + m + d - i) dc, .slice (some ⟨vb, voff, none⟩) m vc]).run Try.prog W1 = .ok (goInt vs.length) (W1.setCells w.heap.size i vs) := fun ty dc =>
    run_copy_cells W1 _ _ ty 93 w.heap.size i (i + m + d - i) dc ⟨vb, voff, none⟩ m vc vs t24 hsz (by rw [hvl]; simp only [Nat.min_def]; split <;> omega)
      (fun j v hj => by rw [Addr.add_lit]; exact hOv _ v (hvs j v hj))
      (fun j hj => hN _ (by omega)) (fun j hj => hNf _) h1v
  have hGn : i + m + d ≤ G := by rw [hG]; exact grownCap_ge w.drew _ _ _
  have hG63 : G ≤ 9223372036854775807 := by
    have := grownCap_le_maxLen w.drew (i + m + d) c 93 (by unfold maxLen; omega)
    rw [← hG] at this
    unfold maxLen at this
    omega
  have hGi : ¬ (G = i) := by omega
  have hGim : ¬ (G = i + m) := by omega
  have hGi1 : i ≤ G := by omega
  have hGi2 : i + m ≤ G := by omega
  have hbN : b ≠ w.heap.size := by omega
  obtain ⟨W2, hW2⟩ : ∃ W2, W2 = W1.setCells w.heap.size i vs := ⟨_, rfl⟩
  rw [← hW2] at hcpA ⊢
  have hcpB : ∀ ty dc sc, (Builtin.copy_ #[99, 99] ty #[.slice (some ⟨w.heap.size, i + m, none⟩) (i + m + d - (i + m)) dc, .slice (some ⟨b, off + j, none⟩) d sc]).run Try.prog W2.drew = .ok (goInt (cs.drop j).length) (W2.drew.setCells w.heap.size (i + m) (cs.drop j)) := fun ty dc sc =>
    run_copy_cells W2.drew _ _ ty 93 w.heap.size (i + m) (i + m + d - (i + m)) dc ⟨b, off + j, none⟩ d sc (cs.drop j) t24 hsz (by rw [hdl]; simp only [Nat.min_def]; split <;> omega)
      (fun x v hx => by
        rw [Addr.add_lit]
        show W2.cell? _ = _
        rw [hW2, World.cell?_setCells_out _ _ _ _ _ (fun h _ => absurd h hbN), Nat.add_assoc]
        exact hOb _ v (hcs (j + x) v (by rwa [List.getElem?_drop] at hx)))
      (fun x hx => by show (W2.cell? _).isSome = true; rw [hW2]; exact Go.Proofs.isSome_setCells _ _ _ _ (fun t ht => hN _ (by omega)) _ (hN _ (by omega)))
      (fun x hx => by show W2.frozen? _ = _; rw [hW2, World.frozen?_setCells]; exact hNf _) (fun v hv => h1c v (List.mem_of_mem_drop hv))
  clear hkk hik hold hROW hG hRl t24 hW1 hW2 hN hNf hOb hOv hcs hvs h1c h1v hsz hi0
  go_enter Try.func85, Try.ntmps85
  go_wp2
  go_region_law_o fail
  all_goals go_wp2_with (at_builtin; refine Lib.wpList_append_run _ rfl _ _ _ _ rfl _ _ rfl rfl _ _ (hrz _) ?_)
  all_goals go_region_law_o (refine step_copy_runI rfl _ _ 99 99 rfl (.slice (some ⟨w.heap.size, i + m, none⟩) (i + m + d - (i + m)) (G - (i + m))) (.slice (some ⟨b, off + j, none⟩) d (c - j)) (by simp [Act.eval, Act.put]) (by simp [Act.eval, Act.put]) (hcpB 3 (G - (i + m)) (c - j)) ?_)
  all_goals go_wp2
  all_goals go_ret
  all_goals exact ⟨rfl, rfl⟩
end Go.Proofs.Ytmacjkiamejcnaa
