/-
  Layer 5: the sizes that the laws ask for; how two texts compare.
-/
import Derived.Test.YtclhnfalebiieaaDoorKeysF
set_option linter.unusedVariables false
set_option linter.unusedSimpArgs false
namespace Go.Proofs.YtclhnfalebiieaaDoor
open Go.RowKit

set_option maxHeartbeats 1000000 in
theorem long_any (w : World) (A : Option Addr) (n c : Nat) (l : List Val) (h : Sl w 4 A n c (vcs l)) :
    Calls Tryd.prog 11 #[.slice A n c] w (Ret w (.bool (longB l))) := by
  obtain ⟨ANS, hA⟩ : ∃ r, longB l = r := ⟨_, rfl⟩
  rw [hA]
  have HA := hide hA
  have hn := h.nc
  have hm := h.cm
  unfold maxLen at hm
  have hlen := h.vlen
  have HLEN := hide hlen
  have hm' : (n : Int) ≤ 9223372036854775807 := by omega
  have HS := hide h
  clear hlen h hA hm hn
  go_enter Tryd.func11, Tryd.ntmps11
  go_wp2_with fail
  go_loopw [3, 7] (fun _ i wr => ∃ k : Nat, k ≤ n ∧ k ≤ 20 ∧ i = .int .i64 (k : Int) ∧ Below w.heap.size w wr ∧ Hid (∀ j x, j < k → l[j]? = some x → x.s.length ≤ 500)) (fun _ i _ => (n - (intOf i).toNat))
  case atStart => exact ⟨0, by omega, by omega, rfl, Below.refl _ _, hide (fun j x h => absurd h (by omega))⟩
  case round =>
    obtain ⟨k, hk, hk2, rfl, hb, hall⟩ := hrel
    have hbs := hb.size
    by_cases hlt : k < n
    · obtain ⟨b, o, x, rfl, hblt, hx, h0, h1, h2, h3⟩ := ((unhide HS).below hb (Nat.le_refl _)).val hlt
      have hlt' : (k : Int) < n := by omega
      have HX := hide hx
      clear hx
      by_cases c1 : 20 ≤ k
      · have c1' : (20 : Int) ≤ k := by omega
        have hend : ANS = true := by
          rw [← unhide HA]
          have := unhide HLEN
          simp only [longB, Bool.or_eq_true, decide_eq_true_eq]
          left
          omega
        subst hend
        go_wp2_with fail
        go_ret
        exact ⟨rfl, (by repeat (first | with_reducible exact Below.refl _ _ | with_reducible assumption | ((with_reducible refine Below.alloc ?_ ?_ _); rotate_left; (first | exact Nat.le_refl _ | (simp; done) | (simp; omega) | omega)) | ((with_reducible refine Below.setCell ?_ ?_ _); rotate_left; (first | exact Nat.le_refl _ | (simp; done) | (simp; omega) | omega)) | (with_reducible refine Below.drew ?_) | (with_reducible refine Go.RowKit.below_drewN ?_ _)))⟩
      · have c1' : (k : Int) < 20 := by omega
        by_cases c2 : 500 < x.s.length
        · have c2' : (500 : Int) < (x.s.length : Int) := by omega
          have hend : ANS = true := by
            rw [← unhide HA]
            simp only [longB, Bool.or_eq_true, List.any_eq_true, decide_eq_true_eq]
            right
            exact ⟨x, List.mem_of_getElem? (unhide HX), c2⟩
          subst hend
          go_wp2_with fail
          go_ret
          exact ⟨rfl, (by repeat (first | with_reducible exact Below.refl _ _ | with_reducible assumption | ((with_reducible refine Below.alloc ?_ ?_ _); rotate_left; (first | exact Nat.le_refl _ | (simp; done) | (simp; omega) | omega)) | ((with_reducible refine Below.setCell ?_ ?_ _); rotate_left; (first | exact Nat.le_refl _ | (simp; done) | (simp; omega) | omega)) | (with_reducible refine Below.drew ?_) | (with_reducible refine Go.RowKit.below_drewN ?_ _)))⟩
        · have c2' : (x.s.length : Int) ≤ 500 := by omega
          go_wp2_with fail
          go_roundw
          case rel => exact ⟨k + 1, by omega, by omega, by go_num, (by repeat (first | with_reducible exact Below.refl _ _ | with_reducible assumption | ((with_reducible refine Below.alloc ?_ ?_ _); rotate_left; (first | exact Nat.le_refl _ | (simp; done) | (simp; omega) | omega)) | ((with_reducible refine Below.setCell ?_ ?_ _); rotate_left; (first | exact Nat.le_refl _ | (simp; done) | (simp; omega) | omega)) | (with_reducible refine Below.drew ?_) | (with_reducible refine Go.RowKit.below_drewN ?_ _))), hide (fun j y hj hy => by
            by_cases e : j = k
            · subst e
              rw [unhide HX] at hy
              injection hy with hy
              subst hy
              omega
            · exact unhide hall j y (by omega) hy)⟩
          case measure => exact (by first | (simp [intOf]; done) | (simp [intOf]; omega))
    · have hge : (n : Int) ≤ (k : Int) := by omega
      have hend : ANS = false := by
        rw [← unhide HA]
        have := unhide HLEN
        simp only [longB, Bool.or_eq_false_iff, List.any_eq_false, decide_eq_true_eq, decide_eq_false_iff_not]
        refine ⟨by omega, fun x hx => ?_⟩
        obtain ⟨j, hj⟩ := List.getElem?_of_mem hx
        have hjl : j < l.length := by
          rcases Nat.lt_or_ge j l.length with h' | h'
          · exact h'
          · rw [List.getElem?_eq_none h'] at hj; cases hj
        have := unhide hall j x (by omega) hj
        omega
      subst hend
      go_wp2_with fail
      go_ret
      exact ⟨rfl, (by repeat (first | with_reducible exact Below.refl _ _ | with_reducible assumption | ((with_reducible refine Below.alloc ?_ ?_ _); rotate_left; (first | exact Nat.le_refl _ | (simp; done) | (simp; omega) | omega)) | ((with_reducible refine Below.setCell ?_ ?_ _); rotate_left; (first | exact Nat.le_refl _ | (simp; done) | (simp; omega) | omega)) | (with_reducible refine Below.drew ?_) | (with_reducible refine Go.RowKit.below_drewN ?_ _)))⟩

/-- how two numbers, two texts compare -/
def cmpN (a b : Int) : Int := if a < b then -1 else if b < a then 1 else 0
def textCmp : List UInt8 → List UInt8 → Int
  | [], [] => 0
  | [], _ :: _ => -1
  | _ :: _, [] => 1
  | a :: x, b :: y => if a = b then textCmp x y else cmpN a.toNat b.toNat
theorem numbers_any (w : World) (a b : Int) : Calls Tryd.prog 39 #[.int .i64 a, .int .i64 b] w fun e w' => e = .returned (.int .i64 (cmpN a b)) ∧ w = w' := by
  unfold cmpN
  by_cases h : a < b
  · rw [if_pos h]
    go_enter Tryd.func39, Tryd.ntmps39
    go_wp2_with fail
    go_ret
    exact ⟨rfl, rfl⟩
  · rw [if_neg h]
    have h' : b ≤ a := by omega
    clear h
    by_cases h2 : b < a
    · rw [if_pos h2]
      go_enter Tryd.func39, Tryd.ntmps39
      go_wp2_with fail
      go_ret
      exact ⟨rfl, rfl⟩
    · rw [if_neg h2]
      have h'' : a ≤ b := by omega
      clear h2
      go_enter Tryd.func39, Tryd.ntmps39
      go_wp2_with fail
      go_ret
      exact ⟨rfl, rfl⟩
end Go.Proofs.YtclhnfalebiieaaDoor
