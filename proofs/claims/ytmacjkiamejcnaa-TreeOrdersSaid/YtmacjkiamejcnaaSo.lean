/-
  (*tree.node).kid (walked); contracts of kid and of slices.BinarySearch.
-/
import Derived.Test.YtmacjkiamejcnaaSn
import Derived.Shelf.RegionOpenPlain
set_option linter.unusedVariables false
set_option linter.unusedSimpArgs false
set_option maxRecDepth 1000000
namespace Go.Proofs.Ytmacjkiamejcnaa
open Go.RowKit Go.Lib
theorem bsGo_le (p : Nat → Bool) : ∀ (f lo hi : Nat), lo ≤ hi → Lib.bsGo p f lo hi ≤ hi
  | 0, lo, hi, h => h
  | f + 1, lo, hi, h => by
    simp only [Lib.bsGo]
    split
    · split
      · exact bsGo_le p f _ _ (by omega)
      · exact Nat.le_trans (bsGo_le p f _ _ (by omega)) (by omega)
    · exact h
set_option maxHeartbeats 4000000 in
theorem kid_c (nb no blk off n c : Nat) (Sx : Nat → ByteArray) (x : ByteArray) (w : World) (hsz : n < 4611686018427387904)
    (h2 : w.cell? ⟨nb, no, none⟩ = some (.slice (some ⟨blk, off, none⟩) n c)) (h4 : ∀ i, i < n → w.cell? ⟨blk, off + i, none⟩ = some (.string (Sx i))) (I : Nat) (hI : Lib.bsGo (fun t => Op.bytesLess (Sx t).toList x.toList || (Sx t).toList == x.toList) n 0 n = I) :
    Calls Try.prog 74 #[.pointer (some ⟨nb, no, none⟩), .string x] w fun e w' => e = .returned (.int .i64 ((I - 1 : Nat) : Int)) ∧ ∃ q, w' = ((w.alloc (.cells #[.pointer (some ⟨nb, no, none⟩)] 93)).alloc (.cells #[.string x] 9)).drewN q := by
  have mixed := Go.Proofs.Ytmacjkiamejcnaa.mixed
  obtain ⟨W1, hW1⟩ : ∃ W1, W1 = w.alloc (.cells #[.pointer (some ⟨nb, no, none⟩)] 93) := ⟨_, rfl⟩
  obtain ⟨W2, hW2⟩ : ∃ W2, W2 = W1.alloc (.cells #[.string x] 9) := ⟨_, rfl⟩
  have z1 : W1.heap.size = w.heap.size + 1 := by rw [hW1]; show (w.heap.push _).size = _; rw [Array.size_push]
  have keep : ∀ a v, w.cell? a = some v → W2.cell? a = some v := fun a v h => by rw [hW2, hW1]; exact Lib.cell?_alloc_some _ (Lib.cell?_alloc_some _ h)
  have k1 : W2.cell? ⟨w.heap.size, 0, none⟩ = some (.pointer (some ⟨nb, no, none⟩)) := by
    rw [hW2]
    refine Lib.cell?_alloc_some _ ?_
    rw [hW1, World.cell?_alloc_at _ _ _ _ rfl]; rfl
  have k2 : W2.cell? ⟨w.heap.size + 1, 0, none⟩ = some (.string x) := by
    rw [hW2, World.cell?_alloc_at _ _ _ _ z1.symm]; rfl
  have hk : ∀ (m i : Nat), i < n → Calls Try.prog 93 #[.int .i64 i, .pointer (some ⟨w.heap.size, 0, none⟩), .pointer (some ⟨w.heap.size + 1, 0, none⟩)] (W2.drewN m) fun e w' => e = .returned (.bool (!(fun t => Op.bytesLess (Sx t).toList x.toList || (Sx t).toList == x.toList) i)) ∧ ∃ q, w' = (W2.drewN m).drewN q := fun m i hi =>
    kid1_c _ _ nb no blk off n c i x (Sx i) (W2.drewN m) hi k1 (keep _ _ h2) k2 (keep _ _ (h4 i hi))
  have hs := search_c w.heap.size (w.heap.size + 1) n _ W2 hsz hk
  rw [hI] at hs
  have hIn : I ≤ n := by rw [← hI]; exact bsGo_le _ _ _ _ (Nat.zero_le _)
  have c2 := keep _ _ h2
  have f1 : IntKind.i64.wrap ((I : Int) - 1) = (I : Int) - 1 := by rw [IntKind.wrap_i64]; omega
  have f2 : max ((I : Int) - 1) 0 = ((I - 1 : Nat) : Int) := by omega
  clear hk keep hI h4
  subst hW2
  subst hW1
  go_enter Try.func74, Try.ntmps74
  go_wp2_with (go_at_call 92; refine hs.mono ?_; rintro e w' ⟨rfl, nq, rfl⟩)
  all_goals go_ret
  all_goals exact ⟨by simp [f2], _, rfl⟩
end Go.Proofs.Ytmacjkiamejcnaa
