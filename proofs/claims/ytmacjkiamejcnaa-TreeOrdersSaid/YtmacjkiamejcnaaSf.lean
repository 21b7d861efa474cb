/-
  slices.Replace, a road of it (walked; printed by wip/gen/re.py).
-/
import Derived.Test.YtmacjkiamejcnaaSe
set_option linter.unusedVariables false
set_option linter.unusedSimpArgs false
set_option maxRecDepth 1000000
namespace Go.Proofs.Ytmacjkiamejcnaa
open Go.RowKit Go.Lib
set_option maxHeartbeats 4000000 in
theorem replace_same (b off d c i j vb voff m vc : Nat) (cs vs : List Value) (w : World) (hij : i < j) (hd : 0 < d) (hm : 0 < m) (hnc : j + d ≤ c) (hroom : i + m = j) (hc63 : c ≤ 9223372036854775807) (hvb : vb ≠ b)
    (hcl : cs.length = j + d) (hvl : vs.length = m)
    (hcs : ∀ j v, cs[j]? = some v → w.cell? ⟨b, off + j, none⟩ = some v) (hfz : ∀ j, w.frozen? ⟨b, j, none⟩ = false)
    (hvs : ∀ j v, vs[j]? = some v → w.cell? ⟨vb, voff + j, none⟩ = some v) (h1c : ∀ v ∈ cs, v.oneCell' = true) (h1v : ∀ v ∈ vs, v.oneCell' = true) :
    Calls Try.prog 85 #[.slice (some ⟨b, off, none⟩) (j + d) c, .int .i64 i, .int .i64 j, .slice (some ⟨vb, voff, none⟩) m vc] w fun e w' =>
      e = .returned (.slice (some ⟨b, off, none⟩) (i + m + d) c) ∧ w' = ((w.drew.setCells b (off + i) vs).drew).setCells b (off + (i + m)) (cs.drop j) := by
  have t24 := Try.underlying99
  have mixed := Go.Proofs.Ytmacjkiamejcnaa.mixed
  obtain ⟨i0, hi0, hz0, hzs, hzb⟩ := info_n
  obtain ⟨v3, v3c, v3o⟩ := zero_n
  have hsz : (Try.prog.info? 93).map (·.size) = some 1 := by rw [hi0]; simp [hzs]
  have hdl : (cs.drop j).length = d := by rw [List.length_drop, hcl]; omega
  have hsp : ∀ t, t < j + d → (w.cell? ⟨b, off + t, none⟩).isSome = true := fun t ht => by rw [hcs t _ (List.getElem?_eq_getElem (by omega))]; rfl
  have hS : ∀ (o : Nat) (vs : List Value) (W : World), (∀ t, t < j + d → (W.cell? ⟨b, off + t, none⟩).isSome = true) → o + vs.length ≤ j + d → ∀ t, t < j + d → ((W.setCells b (off + o) vs).cell? ⟨b, off + t, none⟩).isSome = true := fun o vs W hW ho t ht =>
    Go.Proofs.isSome_setCells b _ _ _ (fun x hx => by rw [Nat.add_assoc]; exact hW _ (by omega)) _ (hW t ht)
  have f1 : ¬ ((i : Int) = (j : Int)) := by omega
  have f2 : ¬ ((j : Int) = (j : Int) + (d : Int)) := by omega
  have f3 : IntKind.i64.wrap ((i : Int) + (m : Int)) = (i : Int) + (m : Int) := by rw [IntKind.wrap_i64]; omega
  have f4 : IntKind.i64.wrap ((i : Int) + (m : Int) + (d : Int)) = (i : Int) + (m : Int) + (d : Int) := by rw [IntKind.wrap_i64]; omega
  have f5 : ((i : Int) + (m : Int)).toNat = i + m := by omega
  have f6 : ((i : Int) + (m : Int) + (d : Int)).toNat = i + m + d := by omega
  have f9 : (0 : Int) ≤ (i : Int) + (m : Int) := by omega
  have f10 : (0 : Int) ≤ (i : Int) + (m : Int) + (d : Int) := by omega
  have q1 : (j : Int) ≤ (j : Int) + (d : Int) := by omega
  have q2 : (i : Int) ≤ (j : Int) + (d : Int) := by omega
  have q3 : (i : Int) ≤ (i : Int) + (m : Int) + (d : Int) := by omega
  have q4 : (i : Int) + (m : Int) ≤ (i : Int) + (m : Int) + (d : Int) := by omega
  have p1 : i ≤ c := by omega
  have p2 : j ≤ c := by omega
  have p3 : i ≤ j := by omega
  have p6 : i ≤ i + m + d := by omega
  have g1 : ¬ (c = i) := by omega
  have g2 : ¬ (c = j) := by omega
  have f7 : ¬ ((c : Int) < (i : Int) + (m : Int) + (d : Int)) := by omega
  have q6 : (i : Int) + (m : Int) + (d : Int) ≤ (c : Int) := by omega
  have p4 : i + m ≤ c := by omega
  have p5 : i + m + d ≤ c := by omega
  have g3 : ¬ (c = i + m) := by omega
  have f8 : (i : Int) + (m : Int) ≤ (j : Int) := by omega
  have q5 : (i : Int) + (m : Int) + (d : Int) ≤ (j : Int) + (d : Int) := by omega
  have p7 : i + m + d ≤ j + d := by omega
  have p8 : i + m ≤ j := by omega
  have g4 : j + d - (i + m + d) = 0 := by omega
  have g5 : j - (i + m) = 0 := by omega
  have hcp1 : ∀ ty dc, (Builtin.copy_ #[99, 99] ty #[.slice (some ⟨b, off + i, none⟩) (i + m + d - i) dc, .slice (some ⟨vb, voff, none⟩) m vc]).run Try.prog w.drew = .ok (goInt vs.length) (w.drew.setCells b (off + i) vs) := fun ty dc =>
    run_copy_cells w.drew _ _ ty 93 b (off + i) (i + m + d - i) dc ⟨vb, voff, none⟩ m vc vs t24 hsz (by rw [hvl]; simp only [Nat.min_def]; split <;> omega)
      (fun j v hj => by rw [Addr.add_lit]; exact hvs j v hj)
      (fun x hx => by rw [Nat.add_assoc]; exact hsp _ (by omega)) (fun x hx => hfz _) h1v
  obtain ⟨W1, hW1⟩ : ∃ W1, W1 = w.drew.setCells b (off + i) vs := ⟨_, rfl⟩
  have hS1 : ∀ t, t < j + d → (W1.cell? ⟨b, off + t, none⟩).isSome = true := by rw [hW1]; exact hS i vs w.drew hsp (by omega)
  have hcp2 : ∀ ty dc sc, (Builtin.copy_ #[99, 99] ty #[.slice (some ⟨b, off + (i + m), none⟩) (i + m + d - (i + m)) dc, .slice (some ⟨b, off + j, none⟩) d sc]).run Try.prog W1.drew = .ok (goInt (cs.drop j).length) (W1.drew.setCells b (off + (i + m)) (cs.drop j)) := fun ty dc sc =>
    run_copy_cells W1.drew _ _ ty 93 b (off + (i + m)) (i + m + d - (i + m)) dc ⟨b, off + j, none⟩ d sc (cs.drop j) t24 hsz (by rw [hdl]; simp only [Nat.min_def]; split <;> omega)
      (fun x v hx => by
        rw [Addr.add_lit]
        show W1.cell? _ = _
        rw [hW1, World.cell?_setCells_out b _ _ _ _ (fun _ _ => .inr (by show _ ≤ off + j + x; omega)), Nat.add_assoc]
        exact hcs (j + x) v (by rwa [List.getElem?_drop] at hx))
      (fun x hx => by rw [Nat.add_assoc]; exact hS1 _ (by omega)) (fun x hx => by show W1.frozen? _ = _; rw [hW1, World.frozen?_setCells]; exact hfz _) (fun v hv => h1c v (List.mem_of_mem_drop hv))
  obtain ⟨W2, hW2⟩ : ∃ W2, W2 = W1.drew.setCells b (off + (i + m)) (cs.drop j) := ⟨_, rfl⟩
  have hS2 : ∀ t, t < j + d → (W2.cell? ⟨b, off + t, none⟩).isSome = true := by rw [hW2]; exact hS (i + m) _ W1.drew hS1 (by omega)
  have hclr : ∀ ty a cc, (Builtin.clear_ #[99] ty #[.slice a 0 cc]).run Try.prog W2 = .ok (.tuple #[]) W2 := fun ty a cc => run_clear_empty W2 _ _ ty t24 a cc
  rw [← hW1] at hcp1 ⊢
  rw [← hW2] at hcp2 ⊢
  clear t24 hroom hW1 hW2 hS hS1 hS2 hsp hcs hvs h1c h1v hsz hi0 v3 v3c v3o
  go_enter Try.func85, Try.ntmps85
  go_wp2
  go_region_law_o fail
  all_goals (go_wp2; go_region_law_o (refine step_copy_runI rfl _ _ 99 99 rfl (.slice (some ⟨b, off + (i + m), none⟩) (i + m + d - (i + m)) (c - (i + m))) (.slice (some ⟨b, off + j, none⟩) d (c - j)) (by simp [Act.eval, Act.put]) (by simp [Act.eval, Act.put]) (hcp2 3 (c - (i + m)) (c - j)) ?_))
  all_goals go_wp2
  all_goals go_ret
  all_goals exact ⟨rfl, rfl⟩
end Go.Proofs.Ytmacjkiamejcnaa
