/-
  slices.Replace (walked; printed by wip/gen/re.py).
-/
import Derived.Test.YtmacjkiamejcnaaSd
set_option linter.unusedVariables false
set_option linter.unusedSimpArgs false
set_option maxRecDepth 1000000
namespace Go.Proofs.Ytmacjkiamejcnaa
open Go.RowKit Go.Lib
theorem info_n : ∃ i0, Try.prog.info? 93 = some i0 ∧ i0.zero = some (.pointer none) ∧ i0.size = 1 ∧ i0.bytes ≤ 100 := ⟨Try.t93, by kernel_rfl, by kernel_rfl, by kernel_rfl, by decide⟩
theorem zero_n : (∀ w, (zeroValue 93).run Try.prog w = .ok (.pointer none) w) ∧ Value.cells (.pointer none) = #[(.pointer none)] ∧ Value.oneCell' (.pointer none) = true := ⟨Try.zeroValue93, rfl, rfl⟩
theorem run_clear_empty {P : Program} (w : World) (t e ty : TypeId) (ht : P.underlying t = some (.slice e)) (a : Option Addr) (c : Nat) : (Builtin.clear_ #[t] ty #[.slice a 0 c]).run P w = .ok (.tuple #[]) w := by
  cases a <;> simp [Builtin.clear_, run_underlying ht]
/-- a slice in a block of ours does not overlap one in another block that has cells -/
theorem run_overlaps_own' {P : Program} (w : World) (tS tR e : TypeId) (ht : P.underlying tS = some (.slice e)) (size : Nat) (hz : ∀ w, (Go.sizeOf e).run P w = .ok size w)
    (a b : Addr) (la ca lb cb : Nat) (hne : b.block ≠ a.block) (tA tB : TypeId) (kA kB : Nat) (hsa : w.shape? a.block = some (tA, kA)) (hsb : w.shape? b.block = some (tB, kB)) (hkB : kB ≠ 0) (hf : ∀ o, w.frozen? ⟨a.block, o, none⟩ = false) (hfa : w.frozen? a = false) :
    (Extern.SlicesOverlaps.overlaps #[tS, tS] #[tR] #[.slice (some a) la ca, .slice (some b) lb cb]).run P w = .ok (.bool false) w := by
  have hnb : (a.block != b.block) = true := by simpa using Ne.symm hne
  have hnb' : (a.block == b.block) = false := by simpa using Ne.symm hne
  change Sem.run P (α := Value) (do
    let some t := (#[tS, tS] : Array TypeId)[0]? | stuck "slices.overlaps: no parameter types"
    let .slice elem ← underlying t | stuck "slices.overlaps: slice type expected"
    let size ← sizeOf elem
    match (some a : Option Addr), (some b : Option Addr) with
    | some a, some b =>
      if la = 0 ∨ lb = 0 ∨ size = 0 then pure (Value.bool false)
      else if a.block != b.block && (← frozen a) && (← frozen b) then unsupported .addressObserved
      else do
        if a.block != b.block then do
          noView a; noView b
          if ← mayBeOne a b then return Value.bool ((← choose (.extern "sameAddr.stringBytes" 2)) == 1)
        pure (Value.bool (a.block == b.block && a.off < b.off + lb * size && b.off < a.off + la * size))
    | _, _ => pure (Value.bool false)) w = _
  by_cases h0 : la = 0 ∨ lb = 0 ∨ size = 0
  · simp [run_underlying ht, hz, h0]
  · cases kB with
    | zero => exact absurd rfl hkB
    | succ kB =>
      rcases h1 : w.frozen? b with _ | _ <;> rcases h2 : w.frozen? ⟨b.block, kB + 1, none⟩ with _ | _ <;>
      simp [run_underlying ht, hz, h0, hnb, hnb', frozen, noView, viewAt, mayBeOne, stringish, shape, Sem.run, hsa, hsb, hf, hfa, h1, h2]
set_option maxHeartbeats 4000000 in
theorem replace_left (b off d c i j vb voff m vc : Nat) (cs vs : List Value) (w : World) (hij : i < j) (hd : 0 < d) (hm : 0 < m) (hnc : j + d ≤ c) (hroom : i + m < j) (hc63 : c ≤ 9223372036854775807) (hvb : vb ≠ b)
    (hcl : cs.length = j + d) (hvl : vs.length = m)
    (hcs : ∀ j v, cs[j]? = some v → w.cell? ⟨b, off + j, none⟩ = some v) (hfz : ∀ j, w.frozen? ⟨b, j, none⟩ = false)
    (hvs : ∀ j v, vs[j]? = some v → w.cell? ⟨vb, voff + j, none⟩ = some v) (h1c : ∀ v ∈ cs, v.oneCell' = true) (h1v : ∀ v ∈ vs, v.oneCell' = true) :
    Calls Try.prog 85 #[.slice (some ⟨b, off, none⟩) (j + d) c, .int .i64 i, .int .i64 j, .slice (some ⟨vb, voff, none⟩) m vc] w fun e w' =>
      e = .returned (.slice (some ⟨b, off, none⟩) (i + m + d) c) ∧ w' = (((w.drew.setCells b (off + i) vs).drew).setCells b (off + (i + m)) (cs.drop j)).setCells b (off + (i + m + d)) (List.replicate (j + d - (i + m + d)) (.pointer none)) := by
  have t24 := Try.underlying99
  have mixed := Go.Proofs.Ytmacjkiamejcnaa.mixed
  obtain ⟨i0, hi0, hz0, hzs, hzb⟩ := info_n
  obtain ⟨v3, v3c, v3o⟩ := zero_n
  have hsz : (Try.prog.info? 93).map (·.size) = some 1 := by rw [hi0]; simp [hzs]
  have hdl : (cs.drop j).length = d := by rw [List.length_drop, hcl]; omega
  have hsp : ∀ t, t < j + d → (w.cell? ⟨b, off + t, none⟩).isSome = true := fun t ht => by rw [hcs t _ (List.getElem?_eq_getElem (by omega))]; rfl
  have hS : ∀ (o : Nat) (vs : List Value) (W : World), (∀ t, t < j + d → (W.cell? ⟨b, off + t, none⟩).isSome = true) → o + vs.length ≤ j + d → ∀ t, t < j + d → ((W.setCells b (off + o) vs).cell? ⟨b, off + t, none⟩).isSome = true := fun o vs W hW ho t ht =>
    Go.Proofs.isSome_setCells b _ _ _ (fun x hx => by rw [Nat.add_assoc]; exact hW _ (by omega)) _ (hW t ht)
  have f1 : ¬ ((i : Int) = (j : Int)) := by omega
  have f2 : ¬ ((j : Int) = (j : Int) + (d : Int)) := by omega
  have f3 : IntKind.i64.wrap ((i : Int) + (m : Int)) = (i : Int) + (m : Int) := by rw [IntKind.wrap_i64]; omega
  have f4 : IntKind.i64.wrap ((i : Int) + (m : Int) + (d : Int)) = (i : Int) + (m : Int) + (d : Int) := by rw [IntKind.wrap_i64]; omega
  have f5 : ((i : Int) + (m : Int)).toNat = i + m := by omega
  have f6 : ((i : Int) + (m : Int) + (d : Int)).toNat = i + m + d := by omega
  have f9 : (0 : Int) ≤ (i : Int) + (m : Int) := by omega
  have f10 : (0 : Int) ≤ (i : Int) + (m : Int) + (d : Int) := by omega
  have q1 : (j : Int) ≤ (j : Int) + (d : Int) := by omega
  have q2 : (i : Int) ≤ (j : Int) + (d : Int) := by omega
  have q3 : (i : Int) ≤ (i : Int) + (m : Int) + (d : Int) := by omega
  have q4 : (i : Int) + (m : Int) ≤ (i : Int) + (m : Int) + (d : Int) := by omega
  have p1 : i ≤ c := by omega
  have p2 : j ≤ c := by omega
  have p3 : i ≤ j := by omega
  have p6 : i ≤ i + m + d := by omega
  have g1 : ¬ (c = i) := by omega
  have g2 : ¬ (c = j) := by omega
  have f7 : ¬ ((c : Int) < (i : Int) + (m : Int) + (d : Int)) := by omega
  have q6 : (i : Int) + (m : Int) + (d : Int) ≤ (c : Int) := by omega
  have p4 : i + m ≤ c := by omega
  have p5 : i + m + d ≤ c := by omega
  have g3 : ¬ (c = i + m) := by omega
  have f8 : (i : Int) + (m : Int) ≤ (j : Int) := by omega
  have q5 : (i : Int) + (m : Int) + (d : Int) ≤ (j : Int) + (d : Int) := by omega
  have p7 : i + m + d ≤ j + d := by omega
  have p8 : i + m ≤ j := by omega
  have g4 : ¬ (c = i + m + d) := by omega
  have hcp1 : ∀ ty dc, (Builtin.copy_ #[99, 99] ty #[.slice (some ⟨b, off + i, none⟩) (i + m + d - i) dc, .slice (some ⟨vb, voff, none⟩) m vc]).run Try.prog w.drew = .ok (goInt vs.length) (w.drew.setCells b (off + i) vs) := fun ty dc =>
    run_copy_cells w.drew _ _ ty 93 b (off + i) (i + m + d - i) dc ⟨vb, voff, none⟩ m vc vs t24 hsz (by rw [hvl]; simp only [Nat.min_def]; split <;> omega)
      (fun j v hj => by rw [Addr.add_lit]; exact hvs j v hj)
      (fun x hx => by rw [Nat.add_assoc]; exact hsp _ (by omega)) (fun x hx => hfz _) h1v
  obtain ⟨W1, hW1⟩ : ∃ W1, W1 = w.drew.setCells b (off + i) vs := ⟨_, rfl⟩
  have hS1 : ∀ t, t < j + d → (W1.cell? ⟨b, off + t, none⟩).isSome = true := by rw [hW1]; exact hS i vs w.drew hsp (by omega)
  have hcp2 : ∀ ty dc sc, (Builtin.copy_ #[99, 99] ty #[.slice (some ⟨b, off + (i + m), none⟩) (i + m + d - (i + m)) dc, .slice (some ⟨b, off + j, none⟩) d sc]).run Try.prog W1.drew = .ok (goInt (cs.drop j).length) (W1.drew.setCells b (off + (i + m)) (cs.drop j)) := fun ty dc sc =>
    run_copy_cells W1.drew _ _ ty 93 b (off + (i + m)) (i + m + d - (i + m)) dc ⟨b, off + j, none⟩ d sc (cs.drop j) t24 hsz (by rw [hdl]; simp only [Nat.min_def]; split <;> omega)
      (fun x v hx => by
        rw [Addr.add_lit]
        show W1.cell? _ = _
        rw [hW1, World.cell?_setCells_out b _ _ _ _ (fun _ _ => .inr (by show _ ≤ off + j + x; omega)), Nat.add_assoc]
        exact hcs (j + x) v (by rwa [List.getElem?_drop] at hx))
      (fun x hx => by rw [Nat.add_assoc]; exact hS1 _ (by omega)) (fun x hx => by show W1.frozen? _ = _; rw [hW1, World.frozen?_setCells]; exact hfz _) (fun v hv => h1c v (List.mem_of_mem_drop hv))
  obtain ⟨W2, hW2⟩ : ∃ W2, W2 = W1.drew.setCells b (off + (i + m)) (cs.drop j) := ⟨_, rfl⟩
  have hS2 : ∀ t, t < j + d → (W2.cell? ⟨b, off + t, none⟩).isSome = true := by rw [hW2]; exact hS (i + m) _ W1.drew hS1 (by omega)
  have hclr : ∀ ty cc, (Builtin.clear_ #[99] ty #[.slice (some ⟨b, off + (i + m + d), none⟩) (j + d - (i + m + d)) cc]).run Try.prog W2 = .ok (.tuple #[]) (W2.setCells b (off + (i + m + d)) (List.replicate (j + d - (i + m + d)) (.pointer none))) :=
    fun ty cc => Lib.run_clear_slice W2 _ _ ty _ t24 v3 v3c v3o b (off + (i + m + d)) _ _ (by omega) (fun t ht => by rw [Nat.add_assoc]; exact hS2 _ (by omega)) (fun t ht => by rw [hW2, World.frozen?_setCells]; show W1.frozen? _ = _; rw [hW1, World.frozen?_setCells]; exact hfz _)
  rw [← hW1] at hcp1 ⊢
  rw [← hW2] at hcp2 ⊢
  clear t24 hroom hW1 hW2 hS hS1 hS2 hsp hcs hvs h1c h1v hsz hi0 v3 v3c v3o
  go_enter Try.func85, Try.ntmps85
  go_wp2
  go_region_law_o fail
  all_goals (go_wp2; go_region_law_o (refine step_copy_runI rfl _ _ 99 99 rfl (.slice (some ⟨b, off + (i + m), none⟩) (i + m + d - (i + m)) (c - (i + m))) (.slice (some ⟨b, off + j, none⟩) d (c - j)) (by simp [Act.eval, Act.put]) (by simp [Act.eval, Act.put]) (hcp2 3 (c - (i + m)) (c - j)) ?_))
  all_goals go_wp2
  all_goals go_ret
  all_goals exact ⟨rfl, rfl⟩
end Go.Proofs.Ytmacjkiamejcnaa
