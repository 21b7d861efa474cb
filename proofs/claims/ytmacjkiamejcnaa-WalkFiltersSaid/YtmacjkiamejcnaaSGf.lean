/-
  slices.Replace, a road of it (walked; printed by wip/gen/re.py).
  slices.Replace, a road of it (walked; printed by wip/gen/re.py).
  slices.Replace, a road of it (walked; printed by wip/gen/re.py).
  slices.Replace, a road of it (walked; printed by wip/gen/re.py).
  slices.Replace: its contract.
-/
import Derived.Test.YtmacjkiamejcnaaSe
set_option linter.unusedVariables false
set_option linter.unusedSimpArgs false
set_option maxRecDepth 1000000
namespace Go.Proofs.Ytmacjkiamejcnaa
open Go.RowKit Go.Lib
set_option maxHeartbeats 4000000 in
theorem replace_same (b off d c i j vb voff m vc : Nat) (cs vs : List Value) (w : World) (hij : i < j) (hd : 0 < d) (hm : 0 < m) (hnc : j + d ≤ c) (hroom : i + m = j) (hc63 : c ≤ 9223372036854775807) (hvb : vb ≠ b)
    (hcl : cs.length = j + d) (hvl : vs.length = m)
    (hcs : ∀ j v, cs[j]? = some v → w.cell? ⟨b, off + j, none⟩ = some v) (hfz : ∀ j, w.frozen? ⟨b, j, none⟩ = false)
    (hvs : ∀ j v, vs[j]? = some v → w.cell? ⟨vb, voff + j, none⟩ = some v) (h1c : ∀ v ∈ cs, v.oneCell' = true) (h1v : ∀ v ∈ vs, v.oneCell' = true) :
    Calls Try.prog 85 #[.slice (some ⟨b, off, none⟩) (j + d) c, .int .i64 i, .int .i64 j, .slice (some ⟨vb, voff, none⟩) m vc] w fun e w' =>
      e = .returned (.slice (some ⟨b, off, none⟩) (i + m + d) c) ∧ w' = ((w.drew.setCells b (off + i) vs).drew).setCells b (off + (i + m)) (cs.drop j) := by
  have t24 := Try.underlying99
  have mixed := Go.Proofs.Ytmacjkiamejcnaa.mixed
  obtain ⟨i0, hi0, hz0, hzs, hzb⟩ := info_n
  obtain ⟨v3, v3c, v3o⟩ := zero_n
  have hsz : (Try.prog.info? 93).map (·.size) = some 1 := by rw [hi0]; simp [hzs]
  have hdl : (cs.drop j).length = d := by rw [List.length_drop, hcl]; omega
  have hsp : ∀ t, t < j + d → (w.cell? ⟨b, off + t, none⟩).isSome = true := fun t ht => by rw [hcs t _ (List.getElem?_eq_getElem (by omega))]; rfl
  have hS : ∀ (o : Nat) (vs : List Value) (W : World), (∀ t, t < j + d → (W.cell? ⟨b, off + t, none⟩).isSome = true) → o + vs.length ≤ j + d → ∀ t, t < j + d → ((W.setCells b (off + o) vs).cell? ⟨b, off + t, none⟩).isSome = true := fun o vs W hW ho t ht =>
    Go.Proofs.isSome_setCells b _ _ _ (fun x hx => by rw [Nat.add_assoc]; exact hW _ (by omega)) _ (hW t ht)
  have f1 : ¬ ((i : Int) = (j : Int)) := by omega
  have f2 : ¬ ((j : Int) = (j : Int) + (d : Int)) := by omega
  have f3 : IntKind.i64.wrap ((i : Int) + (m : Int)) = (i : Int) + (m : Int) := by rw [IntKind.wrap_i64]; omega
  have f4 : IntKind.i64.wrap ((i : Int) + (m : Int) + (d : Int)) = (i : Int) + (m : Int) + (d : Int) := by rw [IntKind.wrap_i64]; omega
  have f5 : ((i : Int) + (m : Int)).toNat = i + m := by omega
  have f6 : ((i : Int) + (m : Int) + (d : Int)).toNat = i + m + d := by omega
  have f9 : (0 : Int) ≤ (i : Int) + (m : Int) := by omega
  have f10 : (0 : Int) ≤ (i : Int) + (m : Int) + (d : Int) := by omega
  have q1 : (j : Int) ≤ (j : Int) + (d : Int) := by omega
  have q2 : (i : Int) ≤ (j : Int) + (d : Int) := by omega
  have q3 : (i : Int) ≤ (i : Int) + (m : Int) + (d : Int) := by omega
  have q4 : (i : Int) + (m : Int) ≤ (i : Int) + (m : Int) + (d : Int) := by omega
  have p1 : i ≤ c := by omega
  have p2 : j ≤ c := by omega
  have p3 : i ≤ j := by omega
  have p6 : i ≤ i + m + d := by omega
  have g1 : ¬ (c = i) := by omega
  have g2 : ¬ (c = j) := by omega
  have f7 : ¬ ((c : Int) < (i : Int) + (m : Int) + (d : Int)) := by omega
  have q6 : (i : Int) + (m : Int) + (d : Int) ≤ (c : Int) := by omega
  have p4 : i + m ≤ c := by omega
  have p5 : i + m + d ≤ c := by omega
  have g3 : ¬ (c = i + m) := by omega
  have f8 : (i : Int) + (m : Int) ≤ (j : Int) := by omega
  have q5 : (i : Int) + (m : Int) + (d : Int) ≤ (j : Int) + (d : Int) := by omega
  have p7 : i + m + d ≤ j + d := by omega
  have p8 : i + m ≤ j := by omega
  have g4 : j + d - (i + m + d) = 0 := by omega
  have g5 : j - (i + m) = 0 := by omega
  have hcp1 : ∀ ty dc, (Builtin.copy_ #[99, 99] ty #[.slice (some ⟨b, off + i, none⟩) (i + m + d - i) dc, .slice (some ⟨vb, voff, none⟩) m vc]).run Try.prog w.drew = .ok (goInt vs.length) (w.drew.setCells b (off + i) vs) := fun ty dc =>
    run_copy_cells w.drew _ _ ty 93 b (off + i) (i + m + d - i) dc ⟨vb, voff, none⟩ m vc vs t24 hsz (by rw [hvl]; simp only [Nat.min_def]; split <;> omega)
      (fun j v hj => by rw [Addr.add_lit]; exact hvs j v hj)
      (fun x hx => by rw [Nat.add_assoc]; exact hsp _ (by omega)) (fun x hx => hfz _) h1v
  obtain ⟨W1, hW1⟩ : ∃ W1, W1 = w.drew.setCells b (off + i) vs := ⟨_, rfl⟩
  have hS1 : ∀ t, t < j + d → (W1.cell? ⟨b, off + t, none⟩).isSome = true := by rw [hW1]; exact hS i vs w.drew hsp (by omega)
  have hcp2 : ∀ ty dc sc, (Builtin.copy_ #[99, 99] ty #[.slice (some ⟨b, off + (i + m), none⟩) (i + m + d - (i + m)) dc, .slice (some ⟨b, off + j, none⟩) d sc]).run Try.prog W1.drew = .ok (goInt (cs.drop j).length) (W1.drew.setCells b (off + (i + m)) (cs.drop j)) := fun ty dc sc =>
    run_copy_cells W1.drew _ _ ty 93 b (off + (i + m)) (i + m + d - (i + m)) dc ⟨b, off + j, none⟩ d sc (cs.drop j) t24 hsz (by rw [hdl]; simp only [Nat.min_def]; split <;> omega)
      (fun x v hx => by
        rw [Addr.add_lit]
        show W1.cell? _ = _
        rw [hW1, World.cell?_setCells_out b _ _ _ _ (fun _ _ => .inr (by show _ ≤ off + j + x; omega)), Nat.add_assoc]
        exact hcs (j + x) v (by rwa [List.getElem?_drop] at hx))
      (fun x hx => by rw [Nat.add_assoc]; exact hS1 _ (by omega)) (fun x hx => by show W1.frozen? _ = _; rw [hW1, World.frozen?_setCells]; exact hfz _) (fun v hv => h1c v (List.mem_of_mem_drop hv))
  obtain ⟨W2, hW2⟩ : ∃ W2, W2 = W1.drew.setCells b (off + (i + m)) (cs.drop j) := ⟨_, rfl⟩
  have hS2 : ∀ t, t < j + d → (W2.cell? ⟨b, off + t, none⟩).isSome = true := by rw [hW2]; exact hS (i + m) _ W1.drew hS1 (by omega)
  have hclr : ∀ ty a cc, (Builtin.clear_ #[99] ty #[.slice a 0 cc]).run Try.prog W2 = .ok (.tuple #[]) W2 := fun ty a cc => run_clear_empty W2 _ _ ty t24 a cc
  rw [← hW1] at hcp1 ⊢
  rw [← hW2] at hcp2 ⊢
  clear t24 hroom hW1 hW2 hS hS1 hS2 hsp hcs hvs h1c h1v hsz hi0 v3 v3c v3o
  go_enter Try.func85, Try.ntmps85
  go_wp2
  go_region_law_o fail
  all_goals (go_wp2; go_region_law_o (refine step_copy_runI rfl _ _ 99 99 rfl (.slice (some ⟨b, off + (i + m), none⟩) (i + m + d - (i + m)) (c - (i + m))) (.slice (some ⟨b, off + j, none⟩) d (c - j)) (by simp [Act.eval, Act.put]) (by simp [Act.eval, Act.put]) (hcp2 3 (c - (i + m)) (c - j)) ?_))
  all_goals go_wp2
  all_goals go_ret
  all_goals exact ⟨rfl, rfl⟩
end Go.Proofs.Ytmacjkiamejcnaa
set_option linter.unusedVariables false
set_option linter.unusedSimpArgs false
set_option maxRecDepth 1000000
namespace Go.Proofs.Ytmacjkiamejcnaa
open Go.RowKit Go.Lib
set_option maxHeartbeats 4000000 in
theorem replace_right (b off d c i j vb voff m vc : Nat) (cs vs : List Value) (w : World) (hij : i < j) (hd : 0 < d) (hm : 0 < m) (hnc : j + d ≤ c) (hroom : j < i + m) (hfit : i + m + d ≤ c) (hc63 : c ≤ 9223372036854775807) (hvb : vb ≠ b)
    (hcl : cs.length = j + d) (hvl : vs.length = m)
    (hcs : ∀ j v, cs[j]? = some v → w.cell? ⟨b, off + j, none⟩ = some v) (hspa : ∀ t, t < c → (w.cell? ⟨b, off + t, none⟩).isSome = true) (hfz : ∀ j, w.frozen? ⟨b, j, none⟩ = false)
    (hvs : ∀ j v, vs[j]? = some v → w.cell? ⟨vb, voff + j, none⟩ = some v) (h1c : ∀ v ∈ cs, v.oneCell' = true) (h1v : ∀ v ∈ vs, v.oneCell' = true)
    (tA tB : TypeId) (kA kB : Nat) (hsa : w.shape? vb = some (tA, kA)) (hsb : w.shape? b = some (tB, kB)) (hkA : kA ≠ 0) :
    Calls Try.prog 85 #[.slice (some ⟨b, off, none⟩) (j + d) c, .int .i64 i, .int .i64 j, .slice (some ⟨vb, voff, none⟩) m vc] w fun e w' =>
      e = .returned (.slice (some ⟨b, off, none⟩) (i + m + d) c) ∧ w' = (w.drew.drew.setCells b (off + (i + m)) (cs.drop j)).setCells b (off + i) vs := by
  have t24 := Try.underlying99
  have mixed := Go.Proofs.Ytmacjkiamejcnaa.mixed
  obtain ⟨i0, hi0, hz0, hzs, hzb⟩ := info_n
  obtain ⟨v3, v3c, v3o⟩ := zero_n
  have hsz : (Try.prog.info? 93).map (·.size) = some 1 := by rw [hi0]; simp [hzs]
  have hdl : (cs.drop j).length = d := by rw [List.length_drop, hcl]; omega
  have hsp : ∀ t, t < c → (w.cell? ⟨b, off + t, none⟩).isSome = true := hspa
  have hS : ∀ (o : Nat) (vs : List Value) (W : World), (∀ t, t < c → (W.cell? ⟨b, off + t, none⟩).isSome = true) → o + vs.length ≤ c → ∀ t, t < c → ((W.setCells b (off + o) vs).cell? ⟨b, off + t, none⟩).isSome = true := fun o vs W hW ho t ht =>
    Go.Proofs.isSome_setCells b _ _ _ (fun x hx => by rw [Nat.add_assoc]; exact hW _ (by omega)) _ (hW t ht)
  have f1 : ¬ ((i : Int) = (j : Int)) := by omega
  have f2 : ¬ ((j : Int) = (j : Int) + (d : Int)) := by omega
  have f3 : IntKind.i64.wrap ((i : Int) + (m : Int)) = (i : Int) + (m : Int) := by rw [IntKind.wrap_i64]; omega
  have f4 : IntKind.i64.wrap ((i : Int) + (m : Int) + (d : Int)) = (i : Int) + (m : Int) + (d : Int) := by rw [IntKind.wrap_i64]; omega
  have f5 : ((i : Int) + (m : Int)).toNat = i + m := by omega
  have f6 : ((i : Int) + (m : Int) + (d : Int)).toNat = i + m + d := by omega
  have f9 : (0 : Int) ≤ (i : Int) + (m : Int) := by omega
  have f10 : (0 : Int) ≤ (i : Int) + (m : Int) + (d : Int) := by omega
  have q1 : (j : Int) ≤ (j : Int) + (d : Int) := by omega
  have q2 : (i : Int) ≤ (j : Int) + (d : Int) := by omega
  have q3 : (i : Int) ≤ (i : Int) + (m : Int) + (d : Int) := by omega
  have q4 : (i : Int) + (m : Int) ≤ (i : Int) + (m : Int) + (d : Int) := by omega
  have p1 : i ≤ c := by omega
  have p2 : j ≤ c := by omega
  have p3 : i ≤ j := by omega
  have p6 : i ≤ i + m + d := by omega
  have g1 : ¬ (c = i) := by omega
  have g2 : ¬ (c = j) := by omega
  have f7 : ¬ ((c : Int) < (i : Int) + (m : Int) + (d : Int)) := by omega
  have q6 : (i : Int) + (m : Int) + (d : Int) ≤ (c : Int) := by omega
  have p4 : i + m ≤ c := by omega
  have p5 : i + m + d ≤ c := by omega
  have g3 : ¬ (c = i + m) := by omega
  have f8 : ¬ ((i : Int) + (m : Int) ≤ (j : Int)) := by omega
  have f8' : (j : Int) < (i : Int) + (m : Int) := by omega
  have hov : ∀ lb cb, (callFunc 100 #[.slice (some ⟨b, off + (i + m), none⟩) lb cb, .slice (some ⟨vb, voff, none⟩) m vc]).run Try.prog w.drew = .ok (.value (.bool false)) w.drew := fun lb cb => by
    rw [run_callFunc_extern Try.func100 (by kernel_rfl) (by kernel_rfl) (by kernel_rfl) (e := Extern.SlicesOverlaps.overlaps #[99, 99] #[4]) (by kernel_rfl),
      run_overlaps_own' w.drew 99 4 93 t24 1 Try.sizeOf93 ⟨b, off + (i + m), none⟩ ⟨vb, voff, none⟩ lb cb m vc hvb tB tA kB kA hsb hsa hkA hfz (hfz _)]
    rfl
  have hcp1 : ∀ ty dc sc, (Builtin.copy_ #[99, 99] ty #[.slice (some ⟨b, off + (i + m), none⟩) (i + m + d - (i + m)) dc, .slice (some ⟨b, off + j, none⟩) d sc]).run Try.prog w.drew.drew = .ok (goInt (cs.drop j).length) (w.drew.drew.setCells b (off + (i + m)) (cs.drop j)) := fun ty dc sc =>
    run_copy_cells w.drew.drew _ _ ty 93 b (off + (i + m)) (i + m + d - (i + m)) dc ⟨b, off + j, none⟩ d sc (cs.drop j) t24 hsz (by rw [hdl]; simp only [Nat.min_def]; split <;> omega)
      (fun x v hx => by
        rw [Addr.add_lit]
        show w.cell? _ = _
        rw [Nat.add_assoc]
        exact hcs (j + x) v (by rwa [List.getElem?_drop] at hx))
      (fun x hx => by rw [Nat.add_assoc]; exact hsp _ (by omega)) (fun x hx => hfz _) (fun v hv => h1c v (List.mem_of_mem_drop hv))
  obtain ⟨W1, hW1⟩ : ∃ W1, W1 = w.drew.drew.setCells b (off + (i + m)) (cs.drop j) := ⟨_, rfl⟩
  have hS1 : ∀ t, t < c → (W1.cell? ⟨b, off + t, none⟩).isSome = true := by rw [hW1]; exact hS (i + m) _ w.drew.drew hsp (by omega)
  have hcp2 : ∀ ty dc, (Builtin.copy_ #[99, 99] ty #[.slice (some ⟨b, off + i, none⟩) (i + m + d - i) dc, .slice (some ⟨vb, voff, none⟩) m vc]).run Try.prog W1 = .ok (goInt vs.length) (W1.setCells b (off + i) vs) := fun ty dc =>
    run_copy_cells W1 _ _ ty 93 b (off + i) (i + m + d - i) dc ⟨vb, voff, none⟩ m vc vs t24 hsz (by rw [hvl]; simp only [Nat.min_def]; split <;> omega)
      (fun j v hj => by rw [Addr.add_lit, hW1, World.cell?_setCells_out b _ _ _ _ (fun h _ => absurd h hvb)]; exact hvs j v hj)
      (fun x hx => by rw [Nat.add_assoc]; exact hS1 _ (by omega)) (fun x hx => by rw [hW1, World.frozen?_setCells]; exact hfz _) h1v
  rw [← hW1] at hcp1 ⊢
  clear t24 hW1 hS hS1 hsp hspa hcs hvs h1c h1v hsz hi0 v3 v3c v3o
  go_enter Try.func85, Try.ntmps85
  go_wp2
  go_region_law_o fail
  all_goals (go_wp2_with (simp only [hov]))
  all_goals (go_region_law_o (refine step_copy_runI rfl _ _ 99 99 rfl (.slice (some ⟨b, off + (i + m), none⟩) (i + m + d - (i + m)) (c - (i + m))) (.slice (some ⟨b, off + j, none⟩) d (c - j)) (by simp [Act.eval, Act.put]) (by simp [Act.eval, Act.put]) (hcp1 3 (c - (i + m)) (c - j)) ?_))
  all_goals go_wp2
  all_goals go_ret
  all_goals exact ⟨rfl, rfl⟩
end Go.Proofs.Ytmacjkiamejcnaa
set_option linter.unusedVariables false
set_option linter.unusedSimpArgs false
set_option maxRecDepth 1000000
namespace Go.Proofs.Ytmacjkiamejcnaa
open Go.RowKit Go.Lib
set_option maxHeartbeats 4000000 in
theorem replace_end_less (b off c i j vb voff m vc : Nat) (cs vs : List Value) (w : World) (hij : i < j) (hm : 0 < m) (hnc : j ≤ c) (hroom : i + m < j) (hfit : i + m ≤ c) (hc63 : c ≤ 9223372036854775807) (hvb : vb ≠ b)
    (hcl : cs.length = j) (hvl : vs.length = m)
    (hcs : ∀ j v, cs[j]? = some v → w.cell? ⟨b, off + j, none⟩ = some v) (hspa : ∀ t, t < c → (w.cell? ⟨b, off + t, none⟩).isSome = true) (hfz : ∀ j, w.frozen? ⟨b, j, none⟩ = false)
    (hvs : ∀ j v, vs[j]? = some v → w.cell? ⟨vb, voff + j, none⟩ = some v) (h1c : ∀ v ∈ cs, v.oneCell' = true) (h1v : ∀ v ∈ vs, v.oneCell' = true) :
    Calls Try.prog 85 #[.slice (some ⟨b, off, none⟩) j c, .int .i64 i, .int .i64 j, .slice (some ⟨vb, voff, none⟩) m vc] w fun e w' =>
      e = .returned (.slice (some ⟨b, off, none⟩) (i + m) c) ∧ w' = (w.setCells b (off + i * 1) vs).setCells b (off + (i + m)) (List.replicate (j - (i + m)) (.pointer none)) := by
  have t24 := Try.underlying99
  have mixed := Go.Proofs.Ytmacjkiamejcnaa.mixed
  obtain ⟨i0, hi0, hz0, hzs, hzb⟩ := info_n
  obtain ⟨v3, v3c, v3o⟩ := zero_n
  have f1 : ¬ ((i : Int) = (j : Int)) := by omega
  have f3 : IntKind.i64.wrap ((i : Int) + (m : Int)) = (i : Int) + (m : Int) := by rw [IntKind.wrap_i64]; omega
  have f5 : ((i : Int) + (m : Int)).toNat = i + m := by omega
  have f9 : (0 : Int) ≤ (i : Int) + (m : Int) := by omega
  have p1 : i ≤ c := by omega
  have p3 : i ≤ j := by omega
  have g1 : ¬ (c = i) := by omega
  have f8 : (i : Int) + (m : Int) < (j : Int) := by omega
  have p8 : i + m ≤ j := by omega
  have g3 : ¬ (c = i + m) := by omega
  have hrun : ∀ ty, (Builtin.append_ #[99, 99] ty #[.slice (some ⟨b, off, none⟩) i c, .slice (some ⟨vb, voff, none⟩) m vc]).run Try.prog w = .ok (.slice (some ⟨b, off, none⟩) (i + m) c) (w.setCells b (off + i * 1) vs) := fun ty => by
    have h := run_append_room_cells (P := Try.prog) w 99 ty 93 i0 t24 hi0 b off i c ⟨vb, voff, none⟩ m vc vs (by rw [hzs]; omega) (fun x u hx => by rw [Addr.add_lit]; exact hvs x u hx) h1v hfit (fun x hx => by rw [hzs, show off + i * 1 + x = off + (i + x) by omega]; exact hspa _ (by omega)) (fun x hx => hfz _)
    rwa [hzs] at h
  obtain ⟨W1, hW1⟩ : ∃ W1, W1 = w.setCells b (off + i * 1) vs := ⟨_, rfl⟩
  have hclr : ∀ ty cc, (Builtin.clear_ #[99] ty #[.slice (some ⟨b, off + (i + m), none⟩) (j - (i + m)) cc]).run Try.prog W1 = .ok (.tuple #[]) (W1.setCells b (off + (i + m)) (List.replicate (j - (i + m)) (.pointer none))) :=
    fun ty cc => Lib.run_clear_slice W1 _ _ ty _ t24 v3 v3c v3o b (off + (i + m)) _ _ (by omega) (fun t ht => by
      rw [hW1, Nat.add_assoc]
      exact Go.Proofs.isSome_setCells b _ _ _ (fun x hx => by rw [show off + i * 1 + x = off + (i + x) by omega]; exact hspa _ (by omega)) _ (hspa _ (by omega))) (fun t ht => by rw [hW1, World.frozen?_setCells]; exact hfz _)
  rw [← hW1] at hrun ⊢
  clear t24 hW1 hspa hcs hvs h1c h1v hi0 v3 v3c v3o
  go_enter Try.func85, Try.ntmps85
  go_wp2_with (at_builtin; refine Lib.wpList_append_run _ rfl _ _ _ _ rfl _ _ rfl rfl _ _ (hrun _) ?_)
  all_goals go_ret
  all_goals exact ⟨rfl, rfl⟩
set_option maxHeartbeats 4000000 in
theorem replace_end_full (b off c i j vb voff m vc : Nat) (cs vs : List Value) (w : World) (hij : i < j) (hm : 0 < m) (hnc : j ≤ c) (hroom : j ≤ i + m) (hfit : i + m ≤ c) (hc63 : c ≤ 9223372036854775807) (hvb : vb ≠ b)
    (hcl : cs.length = j) (hvl : vs.length = m)
    (hcs : ∀ j v, cs[j]? = some v → w.cell? ⟨b, off + j, none⟩ = some v) (hspa : ∀ t, t < c → (w.cell? ⟨b, off + t, none⟩).isSome = true) (hfz : ∀ j, w.frozen? ⟨b, j, none⟩ = false)
    (hvs : ∀ j v, vs[j]? = some v → w.cell? ⟨vb, voff + j, none⟩ = some v) (h1c : ∀ v ∈ cs, v.oneCell' = true) (h1v : ∀ v ∈ vs, v.oneCell' = true) :
    Calls Try.prog 85 #[.slice (some ⟨b, off, none⟩) j c, .int .i64 i, .int .i64 j, .slice (some ⟨vb, voff, none⟩) m vc] w fun e w' =>
      e = .returned (.slice (some ⟨b, off, none⟩) (i + m) c) ∧ w' = w.setCells b (off + i * 1) vs := by
  have t24 := Try.underlying99
  have mixed := Go.Proofs.Ytmacjkiamejcnaa.mixed
  obtain ⟨i0, hi0, hz0, hzs, hzb⟩ := info_n
  obtain ⟨v3, v3c, v3o⟩ := zero_n
  have f1 : ¬ ((i : Int) = (j : Int)) := by omega
  have f3 : IntKind.i64.wrap ((i : Int) + (m : Int)) = (i : Int) + (m : Int) := by rw [IntKind.wrap_i64]; omega
  have f5 : ((i : Int) + (m : Int)).toNat = i + m := by omega
  have f9 : (0 : Int) ≤ (i : Int) + (m : Int) := by omega
  have p1 : i ≤ c := by omega
  have p3 : i ≤ j := by omega
  have g1 : ¬ (c = i) := by omega
  have f8 : ¬ ((i : Int) + (m : Int) < (j : Int)) := by omega
  have f8' : (j : Int) ≤ (i : Int) + (m : Int) := by omega
  have hrun : ∀ ty, (Builtin.append_ #[99, 99] ty #[.slice (some ⟨b, off, none⟩) i c, .slice (some ⟨vb, voff, none⟩) m vc]).run Try.prog w = .ok (.slice (some ⟨b, off, none⟩) (i + m) c) (w.setCells b (off + i * 1) vs) := fun ty => by
    have h := run_append_room_cells (P := Try.prog) w 99 ty 93 i0 t24 hi0 b off i c ⟨vb, voff, none⟩ m vc vs (by rw [hzs]; omega) (fun x u hx => by rw [Addr.add_lit]; exact hvs x u hx) h1v hfit (fun x hx => by rw [hzs, show off + i * 1 + x = off + (i + x) by omega]; exact hspa _ (by omega)) (fun x hx => hfz _)
    rwa [hzs] at h
  obtain ⟨W1, hW1⟩ : ∃ W1, W1 = w.setCells b (off + i * 1) vs := ⟨_, rfl⟩
  rw [← hW1] at hrun ⊢
  clear t24 hW1 hspa hcs hvs h1c h1v hi0 v3 v3c v3o
  go_enter Try.func85, Try.ntmps85
  go_wp2_with (at_builtin; refine Lib.wpList_append_run _ rfl _ _ _ _ rfl _ _ rfl rfl _ _ (hrun _) ?_)
  all_goals go_ret
  all_goals exact ⟨rfl, rfl⟩
set_option maxHeartbeats 4000000 in
theorem replace_end_grow (b off c i j vb voff m vc : Nat) (cs vs : List Value) (w : World) (hij : i < j) (hm : 0 < m) (hnc : j ≤ c) (hroom : c < i + m) (hbig : i + m ≤ 1000000)
    (hcl : cs.length = j) (hvl : vs.length = m)
    (hcs : ∀ j v, cs[j]? = some v → w.cell? ⟨b, off + j, none⟩ = some v)
    (hvs : ∀ j v, vs[j]? = some v → w.cell? ⟨vb, voff + j, none⟩ = some v) (h1c : ∀ v ∈ cs, v.oneCell' = true) (h1v : ∀ v ∈ vs, v.oneCell' = true) :
    Calls Try.prog 85 #[.slice (some ⟨b, off, none⟩) j c, .int .i64 i, .int .i64 j, .slice (some ⟨vb, voff, none⟩) m vc] w fun e w' =>
      e = .returned (.slice (some ⟨w.heap.size, 0, none⟩) (i + m) (grownCap w (i + m) c 93)) ∧
      w' = w.drew.alloc (.cells ((cs.take i ++ vs).toArray ++ Builtin.zeroCells (Value.cells (.pointer none)) (grownCap w (i + m) c 93 - (i + m))) 93) := by
  have t24 := Try.underlying99
  have mixed := Go.Proofs.Ytmacjkiamejcnaa.mixed
  obtain ⟨i0, hi0, hz0, hzs, hzb⟩ := info_n
  have hby : (i + m) * i0.bytes ≤ 140737488355328 := Nat.le_trans (Nat.mul_le_mul hbig hzb) (by decide)
  obtain ⟨v3, v3c, v3o⟩ := zero_n
  have f1 : ¬ ((i : Int) = (j : Int)) := by omega
  have f3 : IntKind.i64.wrap ((i : Int) + (m : Int)) = (i : Int) + (m : Int) := by rw [IntKind.wrap_i64]; omega
  have f5 : ((i : Int) + (m : Int)).toNat = i + m := by omega
  have f9 : (0 : Int) ≤ (i : Int) + (m : Int) := by omega
  have p1 : i ≤ c := by omega
  have p3 : i ≤ j := by omega
  have g1 : i < c := by omega
  have f8 : ¬ ((i : Int) + (m : Int) < (j : Int)) := by omega
  have f8' : (j : Int) ≤ (i : Int) + (m : Int) := by omega
  have hsrc : Src Try.prog i0.size 99 (.slice (some ⟨vb, voff, none⟩) m vc) m vs w := by
    rw [hzs]
    exact Src.ofSlice w t24 ⟨vb, voff, none⟩ m vc vs (by omega) (fun j u hj => by rw [Addr.add_lit]; exact hvs j u hj) h1v
  have hold : (Builtin.firstCells i0.size i (.slice (some ⟨b, off, none⟩) i c)).run Try.prog w.drew = .ok (cs.take i).toArray w.drew := by
    rw [hzs]
    exact run_firstCells_some w.drew 1 i ⟨b, off, none⟩ i c (cs.take i) (by rw [List.length_take]; omega) (fun j v hj => by
      rw [Addr.add_lit]
      rw [List.getElem?_take] at hj
      split at hj
      · exact hcs j v hj
      · cases hj)
  have hrun : ∀ ty, (Builtin.append_ #[99, 99] ty #[.slice (some ⟨b, off, none⟩) i c, .slice (some ⟨vb, voff, none⟩) m vc]).run Try.prog w = _ := fun ty =>
    run_append_grow_src w 99 99 ty 93 i0 _ t24 hi0 hz0 (some ⟨b, off, none⟩) i c (cs.take i) hold _ m vs hsrc hroom (by omega) (growslice_fits hroom hby)
  obtain ⟨G, hG⟩ : ∃ G, G = grownCap w (i + m) c 93 := ⟨_, rfl⟩
  obtain ⟨W1, hW1⟩ : ∃ W1, W1 = w.drew.alloc (.cells ((cs.take i ++ vs).toArray ++ Builtin.zeroCells (Value.cells (.pointer none)) (G - (i + m))) 93) := ⟨_, rfl⟩
  rw [← hG] at hrun ⊢
  rw [← hW1] at hrun ⊢
  clear t24 hW1 hcs hvs h1c h1v hi0 v3 v3c v3o hG hold hsrc
  go_enter Try.func85, Try.ntmps85
  go_wp2_with (at_builtin; refine Lib.wpList_append_run _ rfl _ _ _ _ rfl _ _ rfl rfl _ _ (hrun _) ?_)
  all_goals go_ret
  all_goals exact ⟨rfl, rfl⟩
end Go.Proofs.Ytmacjkiamejcnaa
set_option linter.unusedVariables false
set_option linter.unusedSimpArgs false
set_option maxRecDepth 1000000
namespace Go.Proofs.Ytmacjkiamejcnaa
open Go.RowKit Go.Lib
set_option maxHeartbeats 4000000 in
theorem replace_grow (b off d c i j vb voff m vc : Nat) (cs vs : List Value) (w : World) (hij : i < j) (hd : 0 < d) (hm : 0 < m) (hnc : j + d ≤ c) (hroom : c < i + m + d) (hbig : i + m + d ≤ 1000000)
    (hcl : cs.length = j + d) (hvl : vs.length = m)
    (hcs : ∀ j v, cs[j]? = some v → w.cell? ⟨b, off + j, none⟩ = some v)
    (hvs : ∀ j v, vs[j]? = some v → w.cell? ⟨vb, voff + j, none⟩ = some v) (h1c : ∀ v ∈ cs, v.oneCell' = true) (h1v : ∀ v ∈ vs, v.oneCell' = true) :
    Calls Try.prog 85 #[.slice (some ⟨b, off, none⟩) (j + d) c, .int .i64 i, .int .i64 j, .slice (some ⟨vb, voff, none⟩) m vc] w fun e w' =>
      e = .returned (.slice (some ⟨w.heap.size, 0, none⟩) (i + m + d) (grownCap w.drew (i + m + d) c 93)) ∧
      w' = (((w.drew.drew.alloc (.cells ((cs.take i).toArray ++ Builtin.zeroCells (Value.cells (.pointer none)) (i + m + d - i) ++ Builtin.zeroCells (Value.cells (.pointer none)) (grownCap w.drew (i + m + d) c 93 - (i + m + d))) 93)).setCells w.heap.size i vs).drew).setCells w.heap.size (i + m) (cs.drop j) := by
  have t24 := Try.underlying99
  have mixed := Go.Proofs.Ytmacjkiamejcnaa.mixed
  obtain ⟨i0, hi0, hz0, hzs, hzb⟩ := info_n
  have hby : (i + m + d) * i0.bytes ≤ 140737488355328 := Nat.le_trans (Nat.mul_le_mul hbig hzb) (by decide)
  have hsz : (Try.prog.info? 93).map (·.size) = some 1 := by rw [hi0]; simp [hzs]
  have hdl : (cs.drop j).length = d := by rw [List.length_drop, hcl]; omega
  have f1 : ¬ ((i : Int) = (j : Int)) := by omega
  have f2 : ¬ ((j : Int) = (j : Int) + (d : Int)) := by omega
  have f3 : IntKind.i64.wrap ((i : Int) + (m : Int)) = (i : Int) + (m : Int) := by rw [IntKind.wrap_i64]; omega
  have f4 : IntKind.i64.wrap ((i : Int) + (m : Int) + (d : Int)) = (i : Int) + (m : Int) + (d : Int) := by rw [IntKind.wrap_i64]; omega
  have f5 : ((i : Int) + (m : Int)).toNat = i + m := by omega
  have f6 : ((i : Int) + (m : Int) + (d : Int)).toNat = i + m + d := by omega
  have f9 : (0 : Int) ≤ (i : Int) + (m : Int) := by omega
  have f10 : (0 : Int) ≤ (i : Int) + (m : Int) + (d : Int) := by omega
  have q1 : (j : Int) ≤ (j : Int) + (d : Int) := by omega
  have q2 : (i : Int) ≤ (j : Int) + (d : Int) := by omega
  have q3 : (i : Int) ≤ (i : Int) + (m : Int) + (d : Int) := by omega
  have q4 : (i : Int) + (m : Int) ≤ (i : Int) + (m : Int) + (d : Int) := by omega
  have p1 : i ≤ c := by omega
  have p2 : j ≤ c := by omega
  have p3 : i ≤ j := by omega
  have p6 : i ≤ i + m + d := by omega
  have g1 : ¬ (c = i) := by omega
  have g2 : ¬ (c = j) := by omega
  have f7 : (c : Int) < (i : Int) + (m : Int) + (d : Int) := by omega
  have f11 : IntKind.i64.wrap ((i : Int) + (m : Int) + (d : Int) - (i : Int)) = (i : Int) + (m : Int) + (d : Int) - (i : Int) := by rw [IntKind.wrap_i64]; omega
  have hbw : b < w.heap.size := block_lt_of_cell (hcs 0 _ (List.getElem?_eq_getElem (by omega)))
  have hvw : vb < w.heap.size := block_lt_of_cell (hvs 0 _ (List.getElem?_eq_getElem (by omega)))
  have hkk : (i : Int) + (m : Int) + (d : Int) - (i : Int) = ((i + m + d - i : Nat) : Int) := by omega
  have hik : i + (i + m + d - i) = i + m + d := by omega
  have hold : (Builtin.firstCells i0.size i (.slice (some ⟨b, off, none⟩) i c)).run Try.prog w.drew.drew = .ok (cs.take i).toArray w.drew.drew := by
    rw [hzs]
    exact run_firstCells_some w.drew.drew 1 i ⟨b, off, none⟩ i c (cs.take i) (by rw [List.length_take]; omega) (fun j v hj => by
      rw [Addr.add_lit]
      rw [List.getElem?_take] at hj
      split at hj
      · exact hcs j v hj
      · cases hj)
  have hrz : ∀ ty, (Builtin.append_ #[99, 3] ty #[.slice (some ⟨b, off, none⟩) i c, .int .i64 ((i : Int) + (m : Int) + (d : Int) - (i : Int))]).run Try.prog w.drew =
      .ok (.slice (some ⟨w.heap.size, 0, none⟩) (i + m + d) (grownCap w.drew (i + m + d) c 93)) (w.drew.drew.alloc (.cells ((cs.take i).toArray ++ Builtin.zeroCells (Value.cells (.pointer none)) (i + m + d - i) ++ Builtin.zeroCells (Value.cells (.pointer none)) (grownCap w.drew (i + m + d) c 93 - (i + m + d))) 93)) := fun ty => by
    have h := Lib.run_append_grow_zeros w.drew 99 3 ty 93 i0 _ .i64 .i64 t24 Try.underlying3 hi0 hz0 (some ⟨b, off, none⟩) i c (cs.take i) hold (i + m + d - i) (by omega) (by omega) (by omega) (by omega) (by have : (i + m + d - i) * i0.bytes ≤ (i + m + d) * i0.bytes := Nat.mul_le_mul_right _ (by omega); omega) (by rw [hik]; exact growslice_fits hroom hby)
    rw [hik] at h
    rw [hkk]
    exact h
  obtain ⟨G, hG⟩ : ∃ G, G = grownCap w.drew (i + m + d) c 93 := ⟨_, rfl⟩
  rw [← hG] at hrz ⊢
  obtain ⟨ROW, hROW⟩ : ∃ ROW : Array Value, ROW = (cs.take i).toArray ++ Builtin.zeroCells (Value.cells (.pointer none)) (i + m + d - i) ++ Builtin.zeroCells (Value.cells (.pointer none)) (G - (i + m + d)) := ⟨_, rfl⟩
  rw [← hROW] at hrz ⊢
  have hRl : i + m + d ≤ ROW.size := by
    rw [hROW]
    simp [Builtin.zeroCells, Value.cells]
    omega
  obtain ⟨W1, hW1⟩ : ∃ W1, W1 = w.drew.drew.alloc (.cells ROW 93) := ⟨_, rfl⟩
  rw [← hW1] at hrz ⊢
  have hN : ∀ j, j < i + m + d → (W1.cell? ⟨w.heap.size, j, none⟩).isSome = true := fun j hj => by
    rw [hW1, World.cell?_alloc_at (w := w.drew.drew) ROW _ w.heap.size j rfl, Array.getElem?_eq_getElem (by omega)]; rfl
  have hNf : ∀ j, W1.frozen? ⟨w.heap.size, j, none⟩ = false := fun j => by rw [hW1]; exact World.frozen?_alloc_at (w := w.drew.drew) ROW _ w.heap.size j rfl
  have hOb : ∀ j v, w.cell? ⟨b, j, none⟩ = some v → W1.cell? ⟨b, j, none⟩ = some v := fun j v h => by rw [hW1, World.cell?_alloc_past (w := w.drew.drew) _ b j hbw]; exact h
  have hOv : ∀ j v, w.cell? ⟨vb, j, none⟩ = some v → W1.cell? ⟨vb, j, none⟩ = some v := fun j v h => by rw [hW1, World.cell?_alloc_past (w := w.drew.drew) _ vb j hvw]; exact h
  have hcpA : ∀ ty dc, (Builtin.copy_ #[99, 99] ty #[.slice (some ⟨w.heap.size, i, none⟩) (i + m + d - i) dc, .slice (some ⟨vb, voff, none⟩) m vc]).run Try.prog W1 = .ok (goInt vs.length) (W1.setCells w.heap.size i vs) := fun ty dc =>
    run_copy_cells W1 _ _ ty 93 w.heap.size i (i + m + d - i) dc ⟨vb, voff, none⟩ m vc vs t24 hsz (by rw [hvl]; simp only [Nat.min_def]; split <;> omega)
      (fun j v hj => by rw [Addr.add_lit]; exact hOv _ v (hvs j v hj))
      (fun j hj => hN _ (by omega)) (fun j hj => hNf _) h1v
  have hGn : i + m + d ≤ G := by rw [hG]; exact grownCap_ge w.drew _ _ _
  have hG63 : G ≤ 9223372036854775807 := by
    have := grownCap_le_maxLen w.drew (i + m + d) c 93 (by unfold maxLen; omega)
    rw [← hG] at this
    unfold maxLen at this
    omega
  have hGi : ¬ (G = i) := by omega
  have hGim : ¬ (G = i + m) := by omega
  have hGi1 : i ≤ G := by omega
  have hGi2 : i + m ≤ G := by omega
  have hbN : b ≠ w.heap.size := by omega
  obtain ⟨W2, hW2⟩ : ∃ W2, W2 = W1.setCells w.heap.size i vs := ⟨_, rfl⟩
  rw [← hW2] at hcpA ⊢
  have hcpB : ∀ ty dc sc, (Builtin.copy_ #[99, 99] ty #[.slice (some ⟨w.heap.size, i + m, none⟩) (i + m + d - (i + m)) dc, .slice (some ⟨b, off + j, none⟩) d sc]).run Try.prog W2.drew = .ok (goInt (cs.drop j).length) (W2.drew.setCells w.heap.size (i + m) (cs.drop j)) := fun ty dc sc =>
    run_copy_cells W2.drew _ _ ty 93 w.heap.size (i + m) (i + m + d - (i + m)) dc ⟨b, off + j, none⟩ d sc (cs.drop j) t24 hsz (by rw [hdl]; simp only [Nat.min_def]; split <;> omega)
      (fun x v hx => by
        rw [Addr.add_lit]
        show W2.cell? _ = _
        rw [hW2, World.cell?_setCells_out _ _ _ _ _ (fun h _ => absurd h hbN), Nat.add_assoc]
        exact hOb _ v (hcs (j + x) v (by rwa [List.getElem?_drop] at hx)))
      (fun x hx => by show (W2.cell? _).isSome = true; rw [hW2]; exact Go.Proofs.isSome_setCells _ _ _ _ (fun t ht => hN _ (by omega)) _ (hN _ (by omega)))
      (fun x hx => by show W2.frozen? _ = _; rw [hW2, World.frozen?_setCells]; exact hNf _) (fun v hv => h1c v (List.mem_of_mem_drop hv))
  clear hkk hik hold hROW hG hRl t24 hW1 hW2 hN hNf hOb hOv hcs hvs h1c h1v hsz hi0
  go_enter Try.func85, Try.ntmps85
  go_wp2
  go_region_law_o fail
  all_goals go_wp2_with (at_builtin; refine Lib.wpList_append_run _ rfl _ _ _ _ rfl _ _ rfl rfl _ _ (hrz _) ?_)
  all_goals go_region_law_o (refine step_copy_runI rfl _ _ 99 99 rfl (.slice (some ⟨w.heap.size, i + m, none⟩) (i + m + d - (i + m)) (G - (i + m))) (.slice (some ⟨b, off + j, none⟩) d (c - j)) (by simp [Act.eval, Act.put]) (by simp [Act.eval, Act.put]) (hcpB 3 (G - (i + m)) (c - j)) ?_)
  all_goals go_wp2
  all_goals go_ret
  all_goals exact ⟨rfl, rfl⟩
end Go.Proofs.Ytmacjkiamejcnaa
set_option linter.unusedVariables false
set_option linter.unusedSimpArgs false
set_option maxRecDepth 1000000
namespace Go.Proofs.Ytmacjkiamejcnaa
open Go.RowKit Go.Lib

theorem cell_set {W : World} {b o k : Nat} {vs : List Value} (hs : Sized W b k) (h : o + vs.length ≤ k) (t : Nat) : (W.setCells b o vs).cell? ⟨b, t, none⟩ = if o ≤ t ∧ t < o + vs.length then vs[t - o]? else W.cell? ⟨b, t, none⟩ := by
  by_cases ht : o ≤ t ∧ t < o + vs.length
  · rw [if_pos ht]
    obtain ⟨q, rfl⟩ : ∃ q, t = o + q := ⟨t - o, by omega⟩
    rw [World.cell?_setCells_in b vs o W (fun x hx => sized_some hs (by omega)) q (by omega), Nat.add_sub_cancel_left, List.getElem?_eq_getElem (by omega)]
  · rw [if_neg ht]
    exact World.cell?_setCells_out b _ _ _ _ (fun _ _ => by show t < o ∨ o + vs.length ≤ t; omega)
theorem tri_get (A B C : List Value) (t : Nat) : (A ++ B ++ C)[t]? = if t < A.length then A[t]? else if t < A.length + B.length then B[t - A.length]? else C[t - (A.length + B.length)]? := by
  by_cases h1 : t < A.length
  · rw [if_pos h1, List.append_assoc, List.getElem?_append_left h1]
  · by_cases h2 : t < A.length + B.length
    · rw [if_neg h1, if_pos h2, List.append_assoc, List.getElem?_append_right (by omega), List.getElem?_append_left (by omega)]
    · rw [if_neg h1, if_neg h2, List.getElem?_append_right (by simp; omega), List.length_append]
/-- what the row holds: the elements ahead of i, then so many new ones, then those from j on -/
theorem rep_row {w : World} {b : Nat} {e : TypeId} {arr us : List Value} {i j : Nat} (hr : RowP w b e arr) (hij : i ≤ j) (hj : j ≤ arr.length) {w' : World} (hU : Upd b w w')
    (h1 : ∀ t, t < i → w'.cell? ⟨b, t, none⟩ = w.cell? ⟨b, t, none⟩) (h2 : ∀ t, t < us.length → w'.cell? ⟨b, i + t, none⟩ = us[t]?) (h3 : ∀ t, t < arr.length - j → w'.cell? ⟨b, i + us.length + t, none⟩ = arr[j + t]?) : RowP w' b e (arr.take i ++ us ++ arr.drop j) := by
  refine hU.rowP hr fun t u hu => ?_
  rw [tri_get] at hu
  have htk : (arr.take i).length = i := by simp; omega
  simp only [htk] at hu
  by_cases c1 : t < i
  · rw [if_pos c1, List.getElem?_take, if_pos c1] at hu
    rw [h1 t c1]
    exact hr.cell hu
  · rw [if_neg c1] at hu
    by_cases c2 : t < i + us.length
    · rw [if_pos c2] at hu
      have := h2 (t - i) (by omega)
      rw [show i + (t - i) = t by omega] at this
      rw [this, hu]
    · rw [if_neg c2, List.getElem?_drop] at hu
      have hlt := (List.getElem?_eq_some_iff.1 hu).1
      have := h3 (t - (i + us.length)) (by omega)
      rw [show i + us.length + (t - (i + us.length)) = t by omega] at this
      rw [this, hu]
theorem clr_row {w : World} {b : Nat} {e : TypeId} {l : List Value} (h : RowP w b e l) {o : Nat} (ho : l.length ≤ o) (rest : List Value) : RowP (w.setCells b o rest) b e l :=
  (Upd.setCells b rest o w).rowP h fun t u hu => by
    have := (List.getElem?_eq_some_iff.1 hu).1
    rw [World.cell?_setCells_out b _ _ _ _ (fun _ _ => .inl (by show t < _; omega))]
    exact h.cell hu
theorem rep_left_row {w : World} {b : Nat} {e : TypeId} {arr us : List Value} {c i j : Nat} (hr : RowP w b e arr) (hs : Sized w b (c * 1)) (hij : i ≤ j) (hj : j ≤ arr.length) (hc : arr.length ≤ c) (hm : i + us.length ≤ j) : RowP (((w.drew.setCells b (0 + i) us).drew).setCells b (0 + (i + us.length)) (arr.drop j)) b e (arr.take i ++ us ++ arr.drop j) := by
  have s1 : Sized w.drew b (c * 1) := hs
  have hU1 : Upd b w ((w.drew.setCells b (0 + i) us).drew) := (((Upd.refl b w).drew).step _ _).drew
  have s2 : Sized (w.drew.setCells b (0 + i) us).drew b (c * 1) := hU1.sized hs
  have hd : (arr.drop j).length = arr.length - j := by simp
  have g1 : ∀ t, (w.drew.setCells b (0 + i) us).drew.cell? ⟨b, t, none⟩ = if 0 + i ≤ t ∧ t < 0 + i + us.length then us[t - (0 + i)]? else w.cell? ⟨b, t, none⟩ := fun t => cell_set s1 (by omega) t
  refine rep_row hr hij hj (hU1.step _ _) (fun t ht => ?_) (fun t ht => ?_) (fun t ht => ?_)
  · rw [cell_set s2 (by omega), if_neg (by omega), g1, if_neg (by omega)]
  · rw [cell_set s2 (by omega), if_neg (by omega), g1, if_pos (by omega), show i + t - (0 + i) = t by omega]
  · rw [cell_set s2 (by omega), if_pos (by omega), List.getElem?_drop, show i + us.length + t - (0 + (i + us.length)) = t by omega]
theorem rep_right_row {w : World} {b : Nat} {e : TypeId} {arr us : List Value} {c i j : Nat} (hr : RowP w b e arr) (hs : Sized w b (c * 1)) (hij : i ≤ j) (hj : j ≤ arr.length) (hfit : i + us.length + (arr.length - j) ≤ c) : RowP ((w.drew.drew.setCells b (0 + (i + us.length)) (arr.drop j)).setCells b (0 + i) us) b e (arr.take i ++ us ++ arr.drop j) := by
  have s1 : Sized w.drew.drew b (c * 1) := hs
  have hU1 : Upd b w (w.drew.drew.setCells b (0 + (i + us.length)) (arr.drop j)) := (((Upd.refl b w).drew).drew).step _ _
  have s2 := hU1.sized hs
  have hd : (arr.drop j).length = arr.length - j := by simp
  have g1 : ∀ t, (w.drew.drew.setCells b (0 + (i + us.length)) (arr.drop j)).cell? ⟨b, t, none⟩ = if 0 + (i + us.length) ≤ t ∧ t < 0 + (i + us.length) + (arr.drop j).length then (arr.drop j)[t - (0 + (i + us.length))]? else w.cell? ⟨b, t, none⟩ := fun t => cell_set s1 (by omega) t
  refine rep_row hr hij hj (hU1.step _ _) (fun t ht => ?_) (fun t ht => ?_) (fun t ht => ?_)
  · rw [cell_set s2 (by omega), if_neg (by omega), g1, if_neg (by omega)]
  · rw [cell_set s2 (by omega), if_pos (by omega), show i + t - (0 + i) = t by omega]
  · rw [cell_set s2 (by omega), if_neg (by omega), g1, if_pos (by omega), List.getElem?_drop, show i + us.length + t - (0 + (i + us.length)) = t by omega]
theorem rep_end_row {w : World} {b : Nat} {e : TypeId} {arr us : List Value} {c i : Nat} (hr : RowP w b e arr) (hs : Sized w b (c * 1)) (hi : i ≤ arr.length) (hfit : i + us.length ≤ c) : RowP (w.setCells b (0 + i * 1) us) b e (arr.take i ++ us ++ arr.drop arr.length) := by
  refine rep_row hr hi (Nat.le_refl _) ((Upd.refl b w).step _ _) (fun t ht => ?_) (fun t ht => ?_) (fun t ht => by omega)
  · rw [cell_set hs (by omega), if_neg (by omega)]
  · rw [cell_set hs (by omega), if_pos (by omega), show i + t - (0 + i * 1) = t by omega]
theorem rep_grow_row {w : World} {N : Nat} (hN : N = w.heap.size) {arr us : List Value} {E : TypeId} {i j : Nat} (hij : i ≤ j) (hj : j ≤ arr.length) (A B : Array Value) (hA : A.size = us.length + (arr.length - j)) :
    RowP ((((w.drew.drew.alloc (.cells ((arr.take i).toArray ++ A ++ B) E)).setCells N i us).drew).setCells N (i + us.length) (arr.drop j)) N E (arr.take i ++ us ++ arr.drop j) ∧
    Upd N (w.drew.drew.alloc (.cells ((arr.take i).toArray ++ A ++ B) E)) ((((w.drew.drew.alloc (.cells ((arr.take i).toArray ++ A ++ B) E)).setCells N i us).drew).setCells N (i + us.length) (arr.drop j)) ∧ (w.drew.drew.alloc (.cells ((arr.take i).toArray ++ A ++ B) E)).heap[N]? = some (.cells ((arr.take i).toArray ++ A ++ B) E (0, 0)) := by
  subst hN
  have htk : (arr.take i).length = i := by simp; omega
  have hd : (arr.drop j).length = arr.length - j := by simp
  obtain ⟨row, hrow⟩ : ∃ row, row = (arr.take i).toArray ++ A ++ B := ⟨_, rfl⟩
  have hsz : row.size = i + (us.length + (arr.length - j)) + B.size := by rw [hrow]; simp [hA]; omega
  have hr : ∀ t, t < i → row[t]? = arr[t]? := fun t ht => by
    rw [hrow, Array.append_assoc, Array.getElem?_append_left (by simp; omega)]
    rw [show (arr.take i).toArray[t]? = (arr.take i)[t]? from List.getElem?_toArray, List.getElem?_take, if_pos ht]
  rw [← hrow]
  have h0 : (w.drew.drew.alloc (.cells row E)).heap[w.heap.size]? = some (.cells row E (0, 0)) := heap_alloc_new w.drew.drew _
  have s0 : Sized (w.drew.drew.alloc (.cells row E)) w.heap.size row.size := ⟨_, _, h0, Nat.le_refl _⟩
  have hU1 : Upd w.heap.size (w.drew.drew.alloc (.cells row E)) (((w.drew.drew.alloc (.cells row E)).setCells w.heap.size i us).drew) := ((Upd.refl _ _).step _ _).drew
  have s1 := hU1.sized s0
  have g1 : ∀ t, (((w.drew.drew.alloc (.cells row E)).setCells w.heap.size i us).drew).cell? ⟨w.heap.size, t, none⟩ = if i ≤ t ∧ t < i + us.length then us[t - i]? else (w.drew.drew.alloc (.cells row E)).cell? ⟨w.heap.size, t, none⟩ := fun t => cell_set s0 (by omega) t
  have hU := hU1.step (i + us.length) (arr.drop j)
  obtain ⟨c, k1, k2⟩ := hU.row _ _ _ h0
  refine ⟨rowP_cells k1 fun t u hu => ?_, hU, h0⟩
  rw [tri_get] at hu
  simp only [htk] at hu
  rw [cell_set s1 (by omega)]
  by_cases c1 : t < i
  · rw [if_pos c1, List.getElem?_take, if_pos c1] at hu
    rw [if_neg (by omega), g1, if_neg (by omega), cell_of_row _ _ _ row E (0, 0) h0, hr t c1, hu]
  · rw [if_neg c1] at hu
    by_cases c2 : t < i + us.length
    · rw [if_pos c2] at hu
      rw [if_neg (by omega), g1, if_pos (by omega), hu]
    · rw [if_neg c2] at hu
      have hlt := (List.getElem?_eq_some_iff.1 hu).1
      rw [if_pos (by omega), hu]
def p_replace : CFn := ⟨fun sz n cells xs kk => match xs with | [.int .i64 i, .int .i64 j, .sl _ 1 m vs] => bif decide (sz = 1) && (decide (cells.length = n) && (decide (0 ≤ i) && (decide (i < j) && (decide (j ≤ n) && (decide (0 < m) && decide (n + m ≤ 1000000)))))) then kk (i.toNat + m + (n - j.toNat)) (cells.take i.toNat ++ vs ++ cells.drop j.toNat) else none | _ => none⟩
set_option maxHeartbeats 4000000 in
theorem cok_replace {NG : Nat} {W : World → Prop} : COK NG W 85 p_replace where
  nat := by
    intro R sz n cells xs kk
    simp only [p_replace]
    split
    · rename_i i j _ m vs
      rcases (decide (sz = 1) && (decide (cells.length = n) && (decide (0 ≤ i) && (decide (i < j) && (decide (j ≤ n) && (decide (0 < m) && decide (n + m ≤ 1000000))))))) with _ | _ <;> rfl
    · rfl
  call := by
    intro M b c e arr sz n cells xs vs n' cells' hW hng hG hrow hr hU hNG hnc hcm hsz hrT h
    simp only [p_replace] at h
    split at h
    · rename_i i j nl m ws
      rcases hb : (decide (sz = 1) && (decide (cells.length = n) && (decide (0 ≤ i) && (decide (i < j) && (decide (j ≤ n) && (decide (0 < m) && decide (n + m ≤ 1000000))))))) with _ | _ <;> rw [hb] at h
      · cases h
      simp only [cond_true, Option.some.injEq, Prod.mk.injEq] at h
      obtain ⟨rfl, rfl⟩ := h
      simp only [Bool.and_eq_true, decide_eq_true_eq] at hb
      obtain ⟨b1, b2, b3, b4, b5, b6, b7⟩ := hb
      obtain ⟨u1, u2, u3, rfl, g1, g2, g3⟩ := relT3 hrT
      simp only [RelD] at g1 g2 g3
      subst g1 g2
      obtain ⟨A, vc, us, rfl, j1, j2, j3, j4, j5, j6, j7⟩ := g3
      have hul : us.length = m := by rw [← j6.length, j5]; omega
      obtain rfl | ⟨vb, voff, rfl, hat⟩ := j7
      · simp at hul; omega
      obtain ⟨i, rfl⟩ : ∃ m : Nat, i = (m : Int) := ⟨i.toNat, by omega⟩
      obtain ⟨j, rfl⟩ : ∃ m : Nat, j = (m : Int) := ⟨j.toNat, by omega⟩
      have hl : arr.length = n := by rw [← hr.length, b2]
      have hij : i < j := by omega
      have hjn : j ≤ n := by omega
      obtain ⟨d, rfl⟩ : ∃ d, n = j + d := ⟨n - j, by omega⟩
      subst b1
      simp only [Int.toNat_natCast, Nat.add_sub_cancel_left]
      have hvs : ∀ j v, us[j]? = some v → M.w.cell? ⟨vb, voff + j, none⟩ = some v := fun j v hj => (hat j v hj).1
      obtain ⟨u0, hu0⟩ : ∃ u, us[0]? = some u := ⟨_, List.getElem?_eq_getElem (by omega)⟩
      have hvb : vb ≠ b := by
        rintro rfl
        have := (hat 0 u0 hu0).2
        omega
      have hcs : ∀ j v, arr[j]? = some v → M.w.cell? ⟨b, 0 + j, none⟩ = some v := fun j v hj => by rw [Nat.zero_add]; exact hrow.cell hj
      obtain ⟨tA, kA, hsa, hkA⟩ := shape_cell (hvs 0 u0 hu0)
      obtain ⟨tB, kB, hsb⟩ : ∃ t k, M.w.shape? b = some (t, k) := by
        obtain ⟨cur, e', h1, _⟩ := hsz
        exact ⟨e', cur.size, by simp [World.shape?, h1]⟩
      have hc63 : c ≤ 9223372036854775807 := by unfold maxLen at hcm; omega
      have hent : ∀ vs, (callFunc 85 vs).run Try.prog M.w = .ok (.enter 85 vs) M.w := fun vs => by
        simp [callFunc, Try.func85]
        rw [if_neg (by decide), if_neg (by decide)]
      refine .inr ⟨hent _, ?_⟩
      have hfz : ∀ j, M.w.frozen? ⟨b, j, none⟩ = false := fun j => sized_fz hsz _
      have hsp : ∀ t, t < c → (M.w.cell? ⟨b, 0 + t, none⟩).isSome = true := fun t ht => sized_some hsz (by omega)
      have hrel : ∀ {M' : Mem}, M.le M' → RelL M' (cells.take i ++ ws ++ cells.drop j) (arr.take i ++ us ++ arr.drop j) := fun hm => (((hr.take i).append j6).append (hr.drop j)).mono hm
      by_cases hd : 0 < d
      · by_cases hfit : i + m + d ≤ c
        · rcases Nat.lt_trichotomy (i + m) j with hlt | heq | hgt
          · refine (replace_left b 0 d c i j vb voff m vc arr us M.w hij hd b6 hnc hlt hc63 hvb hl hul hcs hfz hvs hr.one j6.one).mono ?_
            rintro e' w' ⟨rfl, rfl⟩
            subst hul
            have hU' : Upd b M.w ((((M.w.drew.setCells b (0 + i) us).drew).setCells b (0 + (i + us.length)) (arr.drop j)).setCells b (0 + (i + us.length + d)) (List.replicate (j + d - (i + us.length + d)) (.pointer none))) := (((((Upd.refl b M.w).drew).step _ _).drew).step _ _).step _ _
            have hm := hU'.move hU
            exact ⟨_, rfl, M.U, hm, b, c, e, _, rfl, .inl rfl, clr_row (rep_left_row hrow hsz (by omega) (by omega) (by omega) (by omega)) (by simp [hl]; omega) _, hrel hm.le, hU, hfit, hcm, hU'.sized hsz⟩
          · refine (replace_same b 0 d c i j vb voff m vc arr us M.w hij hd b6 hnc heq hc63 hvb hl hul hcs hfz hvs hr.one j6.one).mono ?_
            rintro e' w' ⟨rfl, rfl⟩
            subst hul
            have hU' : Upd b M.w (((M.w.drew.setCells b (0 + i) us).drew).setCells b (0 + (i + us.length)) (arr.drop j)) := ((((Upd.refl b M.w).drew).step _ _).drew).step _ _
            have hm := hU'.move hU
            exact ⟨_, rfl, M.U, hm, b, c, e, _, rfl, .inl rfl, rep_left_row hrow hsz (by omega) (by omega) (by omega) (by omega), hrel hm.le, hU, hfit, hcm, hU'.sized hsz⟩
          · refine (replace_right b 0 d c i j vb voff m vc arr us M.w hij hd b6 hnc hgt hfit hc63 hvb hl hul hcs hsp hfz hvs hr.one j6.one tA tB kA kB hsa hsb hkA).mono ?_
            rintro e' w' ⟨rfl, rfl⟩
            subst hul
            have hU' : Upd b M.w ((M.w.drew.drew.setCells b (0 + (i + us.length)) (arr.drop j)).setCells b (0 + i) us) := ((((Upd.refl b M.w).drew).drew).step _ _).step _ _
            have hm := hU'.move hU
            exact ⟨_, rfl, M.U, hm, b, c, e, _, rfl, .inl rfl, rep_right_row hrow hsz (by omega) (by omega) (by omega), hrel hm.le, hU, hfit, hcm, hU'.sized hsz⟩
        · have hGn : i + m + d ≤ grownCap M.w.drew (i + m + d) c 93 := grownCap_ge M.w.drew _ _ _
          have hGm : grownCap M.w.drew (i + m + d) c 93 ≤ maxLen := grownCap_le_maxLen M.w.drew (i + m + d) c 93 (by unfold maxLen; omega)
          obtain ⟨G, hG⟩ : ∃ G, G = grownCap M.w.drew (i + m + d) c 93 := ⟨_, rfl⟩
          refine (replace_grow b 0 d c i j vb voff m vc arr us M.w hij hd b6 hnc (by omega) (by omega) hl hul hcs hvs hr.one j6.one).mono ?_
          rintro e' w' ⟨rfl, rfl⟩
          rw [← hG] at hGn hGm ⊢
          subst hul
          have hz1 : (Builtin.zeroCells (Value.cells (.pointer none)) (i + us.length + d - i)).size = us.length + (arr.length - j) := by rw [zeroCells_one _ (by decide)]; omega
          obtain ⟨q1, q2, q3⟩ := rep_grow_row (w := M.w) rfl (us := us) (E := 93) (Nat.le_of_lt hij) (show j ≤ arr.length by omega) (Builtin.zeroCells (Value.cells (.pointer none)) (i + us.length + d - i)) (Builtin.zeroCells (Value.cells (.pointer none)) (G - (i + us.length + d))) hz1
          have hm := new_move (M := M) (((Below.refl _ M.w).drew.drew.alloc (Nat.le_refl _) _).trans (q2.below (Nat.le_refl _)))
          refine ⟨_, rfl, _, hm.wide b, M.w.heap.size, G, _, _, rfl, .inr (Nat.le_refl _), q1, hrel hm.le, by simp, hGn, hGm, q2.sized ⟨_, _, q3, ?_⟩⟩
          simp only [Array.size_append, hz1, zeroCells_one _ (show (Value.cells (.pointer none)).size = 1 by decide), List.size_toArray, List.length_take]
          omega
      · obtain rfl : d = 0 := by omega
        have hl0 : arr.length = j := by omega
        by_cases hfit : i + m ≤ c
        · by_cases hlt : i + m < j
          · refine (replace_end_less b 0 c i j vb voff m vc arr us M.w hij b6 (by omega) hlt hfit hc63 hvb hl0 hul hcs hsp hfz hvs hr.one j6.one).mono ?_
            rintro e' w' ⟨rfl, rfl⟩
            subst hul
            have hU' : Upd b M.w ((M.w.setCells b (0 + i * 1) us).setCells b (0 + (i + us.length)) (List.replicate (j - (i + us.length)) (.pointer none))) := ((Upd.refl b M.w).step _ _).step _ _
            have hm := hU'.move hU
            refine ⟨_, rfl, M.U, hm, b, c, e, _, rfl, .inl rfl, ?_, hrel hm.le, hU, hfit, hcm, hU'.sized hsz⟩
            have := clr_row (rep_end_row (i := i) hrow hsz (by omega) hfit) (o := 0 + (i + us.length)) (by simp; omega) (List.replicate (j - (i + us.length)) (.pointer none))
            rwa [hl0] at this
          · refine (replace_end_full b 0 c i j vb voff m vc arr us M.w hij b6 (by omega) (by omega) hfit hc63 hvb hl0 hul hcs hsp hfz hvs hr.one j6.one).mono ?_
            rintro e' w' ⟨rfl, rfl⟩
            subst hul
            have hU' : Upd b M.w (M.w.setCells b (0 + i * 1) us) := (Upd.refl b M.w).step _ _
            have hm := hU'.move hU
            refine ⟨_, rfl, M.U, hm, b, c, e, _, rfl, .inl rfl, ?_, hrel hm.le, hU, hfit, hcm, hU'.sized hsz⟩
            have := rep_end_row (i := i) hrow hsz (by omega) hfit
            rwa [hl0] at this
        · have hGn : i + m ≤ grownCap M.w (i + m) c 93 := grownCap_ge M.w _ _ _
          have hGm : grownCap M.w (i + m) c 93 ≤ maxLen := grownCap_le_maxLen M.w (i + m) c 93 (by unfold maxLen; omega)
          obtain ⟨G, hG⟩ : ∃ G, G = grownCap M.w (i + m) c 93 := ⟨_, rfl⟩
          refine (replace_end_grow b 0 c i j vb voff m vc arr us M.w hij b6 (by omega) (by omega) (by omega) hl0 hul hcs hvs hr.one j6.one).mono ?_
          rintro e' w' ⟨rfl, rfl⟩
          rw [← hG] at hGn hGm ⊢
          have hm := new_move (M := M) (((Below.refl _ M.w).drew.alloc (Nat.le_refl _) (.cells ((arr.take i ++ us).toArray ++ Builtin.zeroCells (Value.cells (.pointer none)) (G - (i + m))) 93)))
          refine ⟨_, rfl, _, hm.wide b, M.w.heap.size, G, 93, arr.take i ++ us ++ arr.drop j, rfl, .inr (Nat.le_refl _), ⟨(Builtin.zeroCells (Value.cells (.pointer none)) (G - (i + m))).toList, ?_⟩, hrel hm.le, by simp, hGn, hGm, ⟨_, _, heap_alloc_new M.w.drew _, ?_⟩⟩
          · refine (heap_alloc_new M.w.drew _).trans ?_
            rw [List.drop_eq_nil_of_le (show arr.length ≤ j by omega)]
            simp
          · simp only [Array.size_append, zeroCells_one _ (show (Value.cells (.pointer none)).size = 1 by decide), List.size_toArray, List.length_append, List.length_take]
            omega
    · cases h
end Go.Proofs.Ytmacjkiamejcnaa
