/-
  slices.Replace, a road of it (walked; printed by wip/gen/re.py).
-/
import Derived.Test.YtmacjkiamejcnaaSe
set_option linter.unusedVariables false
set_option linter.unusedSimpArgs false
set_option maxRecDepth 1000000
namespace Go.Proofs.Ytmacjkiamejcnaa
open Go.RowKit Go.Lib
set_option maxHeartbeats 4000000 in
theorem replace_end_less (b off c i j vb voff m vc : Nat) (cs vs : List Value) (w : World) (hij : i < j) (hm : 0 < m) (hnc : j ≤ c) (hroom : i + m < j) (hfit : i + m ≤ c) (hc63 : c ≤ 9223372036854775807) (hvb : vb ≠ b)
    (hcl : cs.length = j) (hvl : vs.length = m)
    (hcs : ∀ j v, cs[j]? = some v → w.cell? ⟨b, off + j, none⟩ = some v) (hspa : ∀ t, t < c → (w.cell? ⟨b, off + t, none⟩).isSome = true) (hfz : ∀ j, w.frozen? ⟨b, j, none⟩ = false)
    (hvs : ∀ j v, vs[j]? = some v → w.cell? ⟨vb, voff + j, none⟩ = some v) (h1c : ∀ v ∈ cs, v.oneCell' = true) (h1v : ∀ v ∈ vs, v.oneCell' = true) :
    Calls Try.prog 85 #[.slice (some ⟨b, off, none⟩) j c, .int .i64 i, .int .i64 j, .slice (some ⟨vb, voff, none⟩) m vc] w fun e w' =>
      e = .returned (.slice (some ⟨b, off, none⟩) (i + m) c) ∧ w' = (w.setCells b (off + i * 1) vs).setCells b (off + (i + m)) (List.replicate (j - (i + m)) (.pointer none)) := by
  have t24 := Try.underlying99
  have mixed := Go.Proofs.Ytmacjkiamejcnaa.mixed
  obtain ⟨i0, hi0, hz0, hzs, hzb⟩ := info_n
  obtain ⟨v3, v3c, v3o⟩ := zero_n
  have f1 : ¬ ((i : Int) = (j : Int)) := by omega
  have f3 : IntKind.i64.wrap ((i : Int) + (m : Int)) = (i : Int) + (m : Int) := by rw [IntKind.wrap_i64]; omega
  have f5 : ((i : Int) + (m : Int)).toNat = i + m := by omega
  have f9 : (0 : Int) ≤ (i : Int) + (m : Int) := by omega
  have p1 : i ≤ c := by omega
  have p3 : i ≤ j := by omega
  have g1 : ¬ (c = i) := by omega
  have f8 : (i : Int) + (m : Int) < (j : Int) := by omega
  have p8 : i + m ≤ j := by omega
  have g3 : ¬ (c = i + m) := by omega
  have hrun : ∀ ty, (Builtin.append_ #[99, 99] ty #[.slice (some ⟨b, off, none⟩) i c, .slice (some ⟨vb, voff, none⟩) m vc]).run Try.prog w = .ok (.slice (some ⟨b, off, none⟩) (i + m) c) (w.setCells b (off + i * 1) vs) := fun ty => by
    have h := run_append_room_cells (P := Try.prog) w 99 ty 93 i0 t24 hi0 b off i c ⟨vb, voff, none⟩ m vc vs (by rw [hzs]; omega) (fun x u hx => by rw [Addr.add_lit]; exact hvs x u hx) h1v hfit (fun x hx => by rw [hzs, show off + i * 1 + x = off + (i + x) by omega]; exact hspa _ (by omega)) (fun x hx => hfz _)
    rwa [hzs] at h
  obtain ⟨W1, hW1⟩ : ∃ W1, W1 = w.setCells b (off + i * 1) vs := ⟨_, rfl⟩
  have hclr : ∀ ty cc, (Builtin.clear_ #[99] ty #[.slice (some ⟨b, off + (i + m), none⟩) (j - (i + m)) cc]).run Try.prog W1 = .ok (.tuple #[]) (W1.setCells b (off + (i + m)) (List.replicate (j - (i + m)) (.pointer none))) :=
    fun ty cc => Lib.run_clear_slice W1 _ _ ty _ t24 v3 v3c v3o b (off + (i + m)) _ _ (by omega) (fun t ht => by
      rw [hW1, Nat.add_assoc]
      exact Go.Proofs.isSome_setCells b _ _ _ (fun x hx => by rw [show off + i * 1 + x = off + (i + x) by omega]; exact hspa _ (by omega)) _ (hspa _ (by omega))) (fun t ht => by rw [hW1, World.frozen?_setCells]; exact hfz _)
  rw [← hW1] at hrun ⊢
  clear t24 hW1 hspa hcs hvs h1c h1v hi0 v3 v3c v3o
  go_enter Try.func85, Try.ntmps85
  go_wp2_with (at_builtin; refine Lib.wpList_append_run _ rfl _ _ _ _ rfl _ _ rfl rfl _ _ (hrun _) ?_)
  all_goals go_ret
  all_goals exact ⟨rfl, rfl⟩
set_option maxHeartbeats 4000000 in
theorem replace_end_full (b off c i j vb voff m vc : Nat) (cs vs : List Value) (w : World) (hij : i < j) (hm : 0 < m) (hnc : j ≤ c) (hroom : j ≤ i + m) (hfit : i + m ≤ c) (hc63 : c ≤ 9223372036854775807) (hvb : vb ≠ b)
    (hcl : cs.length = j) (hvl : vs.length = m)
    (hcs : ∀ j v, cs[j]? = some v → w.cell? ⟨b, off + j, none⟩ = some v) (hspa : ∀ t, t < c → (w.cell? ⟨b, off + t, none⟩).isSome = true) (hfz : ∀ j, w.frozen? ⟨b, j, none⟩ = false)
    (hvs : ∀ j v, vs[j]? = some v → w.cell? ⟨vb, voff + j, none⟩ = some v) (h1c : ∀ v ∈ cs, v.oneCell' = true) (h1v : ∀ v ∈ vs, v.oneCell' = true) :
    Calls Try.prog 85 #[.slice (some ⟨b, off, none⟩) j c, .int .i64 i, .int .i64 j, .slice (some ⟨vb, voff, none⟩) m vc] w fun e w' =>
      e = .returned (.slice (some ⟨b, off, none⟩) (i + m) c) ∧ w' = w.setCells b (off + i * 1) vs := by
  have t24 := Try.underlying99
  have mixed := Go.Proofs.Ytmacjkiamejcnaa.mixed
  obtain ⟨i0, hi0, hz0, hzs, hzb⟩ := info_n
  obtain ⟨v3, v3c, v3o⟩ := zero_n
  have f1 : ¬ ((i : Int) = (j : Int)) := by omega
  have f3 : IntKind.i64.wrap ((i : Int) + (m : Int)) = (i : Int) + (m : Int) := by rw [IntKind.wrap_i64]; omega
  have f5 : ((i : Int) + (m : Int)).toNat = i + m := by omega
  have f9 : (0 : Int) ≤ (i : Int) + (m : Int) := by omega
  have p1 : i ≤ c := by omega
  have p3 : i ≤ j := by omega
  have g1 : ¬ (c = i) := by omega
  have f8 : ¬ ((i : Int) + (m : Int) < (j : Int)) := by omega
  have f8' : (j : Int) ≤ (i : Int) + (m : Int) := by omega
  have hrun : ∀ ty, (Builtin.append_ #[99, 99] ty #[.slice (some ⟨b, off, none⟩) i c, .slice (some ⟨vb, voff, none⟩) m vc]).run Try.prog w = .ok (.slice (some ⟨b, off, none⟩) (i + m) c) (w.setCells b (off + i * 1) vs) := fun ty => by
    have h := run_append_room_cells (P := Try.prog) w 99 ty 93 i0 t24 hi0 b off i c ⟨vb, voff, none⟩ m vc vs (by rw [hzs]; omega) (fun x u hx => by rw [Addr.add_lit]; exact hvs x u hx) h1v hfit (fun x hx => by rw [hzs, show off + i * 1 + x = off + (i + x) by omega]; exact hspa _ (by omega)) (fun x hx => hfz _)
    rwa [hzs] at h
  obtain ⟨W1, hW1⟩ : ∃ W1, W1 = w.setCells b (off + i * 1) vs := ⟨_, rfl⟩
  rw [← hW1] at hrun ⊢
  clear t24 hW1 hspa hcs hvs h1c h1v hi0 v3 v3c v3o
  go_enter Try.func85, Try.ntmps85
  go_wp2_with (at_builtin; refine Lib.wpList_append_run _ rfl _ _ _ _ rfl _ _ rfl rfl _ _ (hrun _) ?_)
  all_goals go_ret
  all_goals exact ⟨rfl, rfl⟩
set_option maxHeartbeats 4000000 in
theorem replace_end_grow (b off c i j vb voff m vc : Nat) (cs vs : List Value) (w : World) (hij : i < j) (hm : 0 < m) (hnc : j ≤ c) (hroom : c < i + m) (hbig : i + m ≤ 1000000)
    (hcl : cs.length = j) (hvl : vs.length = m)
    (hcs : ∀ j v, cs[j]? = some v → w.cell? ⟨b, off + j, none⟩ = some v)
    (hvs : ∀ j v, vs[j]? = some v → w.cell? ⟨vb, voff + j, none⟩ = some v) (h1c : ∀ v ∈ cs, v.oneCell' = true) (h1v : ∀ v ∈ vs, v.oneCell' = true) :
    Calls Try.prog 85 #[.slice (some ⟨b, off, none⟩) j c, .int .i64 i, .int .i64 j, .slice (some ⟨vb, voff, none⟩) m vc] w fun e w' =>
      e = .returned (.slice (some ⟨w.heap.size, 0, none⟩) (i + m) (grownCap w (i + m) c 93)) ∧
      w' = w.drew.alloc (.cells ((cs.take i ++ vs).toArray ++ Builtin.zeroCells (Value.cells (.pointer none)) (grownCap w (i + m) c 93 - (i + m))) 93) := by
  have t24 := Try.underlying99
  have mixed := Go.Proofs.Ytmacjkiamejcnaa.mixed
  obtain ⟨i0, hi0, hz0, hzs, hzb⟩ := info_n
  have hby : (i + m) * i0.bytes ≤ 140737488355328 := Nat.le_trans (Nat.mul_le_mul hbig hzb) (by decide)
  obtain ⟨v3, v3c, v3o⟩ := zero_n
  have f1 : ¬ ((i : Int) = (j : Int)) := by omega
  have f3 : IntKind.i64.wrap ((i : Int) + (m : Int)) = (i : Int) + (m : Int) := by rw [IntKind.wrap_i64]; omega
  have f5 : ((i : Int) + (m : Int)).toNat = i + m := by omega
  have f9 : (0 : Int) ≤ (i : Int) + (m : Int) := by omega
  have p1 : i ≤ c := by omega
  have p3 : i ≤ j := by omega
  have g1 : i < c := by omega
  have f8 : ¬ ((i : Int) + (m : Int) < (j : Int)) := by omega
  have f8' : (j : Int) ≤ (i : Int) + (m : Int) := by omega
  have hsrc : Src Try.prog i0.size 99 (.slice (some ⟨vb, voff, none⟩) m vc) m vs w := by
    rw [hzs]
    exact Src.ofSlice w t24 ⟨vb, voff, none⟩ m vc vs (by omega) (fun j u hj => by rw [Addr.add_lit]; exact hvs j u hj) h1v
  have hold : (Builtin.firstCells i0.size i (.slice (some ⟨b, off, none⟩) i c)).run Try.prog w.drew = .ok (cs.take i).toArray w.drew := by
    rw [hzs]
    exact run_firstCells_some w.drew 1 i ⟨b, off, none⟩ i c (cs.take i) (by rw [List.length_take]; omega) (fun j v hj => by
      rw [Addr.add_lit]
      rw [List.getElem?_take] at hj
      split at hj
      · exact hcs j v hj
      · cases hj)
  have hrun : ∀ ty, (Builtin.append_ #[99, 99] ty #[.slice (some ⟨b, off, none⟩) i c, .slice (some ⟨vb, voff, none⟩) m vc]).run Try.prog w = _ := fun ty =>
    run_append_grow_src w 99 99 ty 93 i0 _ t24 hi0 hz0 (some ⟨b, off, none⟩) i c (cs.take i) hold _ m vs hsrc hroom (by omega) (growslice_fits hroom hby)
  obtain ⟨G, hG⟩ : ∃ G, G = grownCap w (i + m) c 93 := ⟨_, rfl⟩
  obtain ⟨W1, hW1⟩ : ∃ W1, W1 = w.drew.alloc (.cells ((cs.take i ++ vs).toArray ++ Builtin.zeroCells (Value.cells (.pointer none)) (G - (i + m))) 93) := ⟨_, rfl⟩
  rw [← hG] at hrun ⊢
  rw [← hW1] at hrun ⊢
  clear t24 hW1 hcs hvs h1c h1v hi0 v3 v3c v3o hG hold hsrc
  go_enter Try.func85, Try.ntmps85
  go_wp2_with (at_builtin; refine Lib.wpList_append_run _ rfl _ _ _ _ rfl _ _ rfl rfl _ _ (hrun _) ?_)
  all_goals go_ret
  all_goals exact ⟨rfl, rfl⟩
end Go.Proofs.Ytmacjkiamejcnaa
