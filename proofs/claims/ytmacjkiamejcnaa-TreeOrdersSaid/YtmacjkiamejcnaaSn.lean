/-
  (*tree.node).kid: its closure, sort.Search (walked).
-/
import Derived.Test.YtmacjkiamejcnaaSm
import Derived.Deep.QuietTactic
import Derived.Shelf.RegionOpenPlain
set_option linter.unusedVariables false
set_option linter.unusedSimpArgs false
set_option maxRecDepth 1000000
namespace Go.Proofs.Ytmacjkiamejcnaa
open Go.RowKit Go.Lib
@[go_sem] theorem binOp_string_gtr_my (t : TypeId) (a b : ByteArray) : binOp .gtr t (.string a) (.string b) = pure (.bool !(Op.bytesLess a.toList b.toList || a.toList == b.toList)) := by simp [binOp, Op.stringOp]
set_option maxHeartbeats 2000000 in
theorem kid1_c (B C nb no blk off n c i : Nat) (x y : ByteArray) (W : World) (hi : i < n)
    (h1 : W.cell? ⟨B, 0, none⟩ = some (.pointer (some ⟨nb, no, none⟩))) (h2 : W.cell? ⟨nb, no, none⟩ = some (.slice (some ⟨blk, off, none⟩) n c)) (h3 : W.cell? ⟨C, 0, none⟩ = some (.string x)) (h4 : W.cell? ⟨blk, off + i, none⟩ = some (.string y)) :
    Calls Try.prog 93 #[.int .i64 i, .pointer (some ⟨B, 0, none⟩), .pointer (some ⟨C, 0, none⟩)] W fun e w' => e = .returned (.bool (!(Op.bytesLess y.toList x.toList || y.toList == x.toList))) ∧ ∃ q, w' = W.drewN q := by
  have mixed := Go.Proofs.Ytmacjkiamejcnaa.mixed
  have hiz : (i : Int) < (n : Int) := by omega
  go_enter Try.func93, Try.ntmps93
  go_wp2
  go_region_o
  all_goals go_wp2
  all_goals go_ret
  all_goals exact ⟨by first | rfl | simp, 1, rfl⟩
set_option maxHeartbeats 4000000 in
theorem search_c (B C n : Nat) (p : Nat → Bool) (w : World) (hsz : n < 4611686018427387904)
    (hf : ∀ (m i : Nat), i < n → Calls Try.prog 93 #[.int .i64 i, .pointer (some ⟨B, 0, none⟩), .pointer (some ⟨C, 0, none⟩)] (w.drewN m) fun e w' => e = .returned (.bool (!p i)) ∧ ∃ q, w' = (w.drewN m).drewN q) :
    Calls Try.prog 92 #[.int .i64 n, .func (.func 93) #[] #[.pointer (some ⟨B, 0, none⟩), .pointer (some ⟨C, 0, none⟩)]] w fun e w' => e = .returned (.int .i64 (Lib.bsGo p n 0 n : Nat)) ∧ ∃ q, w' = w.drewN q := by
  have mixed := Go.Proofs.Ytmacjkiamejcnaa.mixed
  have HF : Aside _ := hf
  clear hf
  obtain ⟨I, hI⟩ : ∃ I, Lib.bsGo p n 0 n = I := ⟨_, rfl⟩
  rw [hI]
  go_enter Try.func92, Try.ntmps92
  go_wp2
  go_loopg [5, 6] n (fun g s5 s6 wr => ∃ lo hi q : Nat, s5 = .int .i64 lo ∧ s6 = .int .i64 hi ∧ lo ≤ hi ∧ hi ≤ n ∧ hi - lo ≤ g ∧ wr = w.drewN q ∧ Lib.bsGo p g lo hi = I)
  case atStart => exact ⟨0, n, 0, rfl, rfl, Nat.zero_le _, Nat.le_refl _, by omega, rfl, hI⟩
  case round =>
    obtain ⟨lo, hi, q, rfl, rfl, hlh, hin, hg, rfl, hb⟩ := hrel
    by_cases hlt : lo < hi
    · have hc := HF.out q ((lo + hi) / 2) (by omega)
      rw [show (((lo + hi) / 2 : Nat) : Int) = ((lo : Int) + (hi : Int)) / 2 by omega] at hc
      obtain ⟨g', rfl⟩ : ∃ g', gk = g' + 1 := ⟨gk - 1, by omega⟩
      simp only [Lib.bsGo, hlt, if_true] at hb
      cases hp : p ((lo + hi) / 2) <;> rw [hp] at hc <;> simp only [hp, if_true, Bool.false_eq_true, if_false] at hb
      · clear hp
        go_wp2_with (go_at_call 93; refine hc.mono ?_; rintro e w' ⟨rfl, nq, rfl⟩)
        go_roundg ((lo + hi) / 2 - lo)
        case measure => omega
        case rel => exact ⟨lo, (lo + hi) / 2, q + nq, rfl, by rw [show ((lo : Int) + (hi : Int)) / 2 = (((lo + hi) / 2 : Nat) : Int) by omega], by omega, by omega, Nat.le_refl _, rfl, by rw [← hb]; exact Lib.bsGo_fuel _ _ _ _ _ (Nat.le_refl _) (by omega)⟩
      · clear hp
        go_wp2_with (go_at_call 93; refine hc.mono ?_; rintro e w' ⟨rfl, nq, rfl⟩)
        go_roundg (hi - ((lo + hi) / 2 + 1))
        case measure => omega
        case rel => exact ⟨(lo + hi) / 2 + 1, hi, q + nq, by rw [show ((lo : Int) + (hi : Int)) / 2 + 1 = (((lo + hi) / 2 + 1 : Nat) : Int) by omega], rfl, by omega, hin, Nat.le_refl _, rfl, by rw [← hb]; exact Lib.bsGo_fuel _ _ _ _ _ (Nat.le_refl _) (by omega)⟩
    · obtain rfl : hi = lo := by omega
      have hIe : I = hi := by
        rw [← hb]
        cases gk <;> simp [Lib.bsGo]
      subst hIe
      go_wp2
      go_ret
      exact ⟨rfl, q, rfl⟩
end Go.Proofs.Ytmacjkiamejcnaa
