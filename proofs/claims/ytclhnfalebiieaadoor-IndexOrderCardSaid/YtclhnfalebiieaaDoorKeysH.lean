/-
  Layer 5: how two texts compare, the reference's Above.
-/
import Derived.Test.YtclhnfalebiieaaDoorKeysG
set_option linter.unusedVariables false
set_option linter.unusedSimpArgs false
namespace Go.Proofs.YtclhnfalebiieaaDoor
open Go.RowKit

theorem str_ext {a b : ByteArray} (h : a.data.toList = b.data.toList) : a = b := by
  cases a with | mk x => cases b with | mk y => exact congrArg ByteArray.mk (Array.ext' h)
theorem str_cut (l : List UInt8) (i j : Nat) : (⟨l.toArray⟩ : ByteArray).extract i j = ⟨((l.drop i).take (j - i)).toArray⟩ := str_ext (by
  rw [Lib.extract_data])
theorem str_app (a b : List UInt8) : (⟨a.toArray⟩ : ByteArray) ++ ⟨b.toArray⟩ = ⟨(a ++ b).toArray⟩ := str_ext (by simp)
theorem numbers_q (w : World) (q : Nat) (a b : Int) : Calls Tryd.prog 39 #[.int .i64 a, .int .i64 b] (w.drewN q) fun e w'' => e = .returned (.int .i64 (cmpN a b)) ∧ ∃ m, w'' = w.drewN m :=
  (numbers_any _ a b).mono fun _ _ ⟨he, hm⟩ => ⟨he, q, hm.symm⟩

set_option maxRecDepth 100000 in
set_option maxHeartbeats 1000000 in
theorem texts_any (w : World) (a b : List UInt8) (ha : a.length ≤ 1000000000) (hb : b.length ≤ 1000000000) :
    Calls Tryd.prog 22 #[.string ⟨a.toArray⟩, .string ⟨b.toArray⟩] w (Ret w (.int .i64 (textCmp a b))) := by
  obtain ⟨ANS, hA⟩ : ∃ r, textCmp a b = r := ⟨_, rfl⟩
  rw [hA]
  have HA := hide hA
  clear hA
  go_enter Tryd.func22, Tryd.ntmps22
  go_wp2_with fail
  go_loopw [5] (fun i wr => ∃ k : Nat, k ≤ a.length ∧ k ≤ b.length ∧ i = .int .i64 (k : Int) ∧ Below w.heap.size w wr ∧ Hid (textCmp (a.drop k) (b.drop k) = ANS)) (fun i _ => a.length - (intOf i).toNat)
  case atStart => exact ⟨0, by omega, by omega, rfl, Below.refl _ _, HA⟩
  case round =>
    obtain ⟨k, hk, hk2, rfl, hbw, hv⟩ := hrel
    clear HA
    by_cases h1 : k < a.length
    · have h1' : (k : Int) < (a.length : Int) := by omega
      obtain ⟨x, hx⟩ : ∃ x, a[k]? = some x := ⟨a[k], by simp⟩
      have hbx := byteAt hx
      have hdx := drop_cons hx
      rw [hdx] at hv
      clear hx hdx
      by_cases h2 : k < b.length
      · have h2' : (k : Int) < (b.length : Int) := by omega
        obtain ⟨y, hy⟩ : ∃ y, b[k]? = some y := ⟨b[k], by simp⟩
        have hby := byteAt hy
        have hdy := drop_cons hy
        rw [hdy] at hv
        have x0 : (0 : Int) ≤ (x.toNat : Int) := by omega
        have x1 : (x.toNat : Int) < 256 := by have := x.toNat_lt; omega
        have y0 : (0 : Int) ≤ (y.toNat : Int) := by omega
        have y1 : (y.toNat : Int) < 256 := by have := y.toNat_lt; omega
        clear hy hdy
        by_cases hxy : x = y
        · subst hxy
          have hv2 : Hid (textCmp (a.drop (k + 1)) (b.drop (k + 1)) = ANS) := hide (by have := unhide hv; rw [textCmp, if_pos rfl] at this; exact this)
          clear hv
          go_wp2_with fail
          go_quiet (fail)
          go_wp2_with fail
          go_roundw
          case rel => exact ⟨k + 1, by omega, by omega, by go_num, bdrewN hbw _, hv2⟩
          case measure => exact (by first | (simp [intOf]; done) | (simp [intOf]; omega))
        · have hne : ((x.toNat : Int) != (y.toNat : Int)) = true := by
            rw [bne_iff_ne]
            intro e
            exact hxy (UInt8.toNat_inj.1 (by omega))
          have hend : ANS = cmpN x.toNat y.toNat := by rw [← unhide hv, textCmp, if_neg hxy]
          subst hend
          have wx : IntKind.i64.wrap (x.toNat : Int) = x.toNat := by rw [IntKind.wrap_i64]; omega
          have wy : IntKind.i64.wrap (y.toNat : Int) = y.toNat := by rw [IntKind.wrap_i64]; omega
          clear hv hxy
          go_wp2_with fail
          go_quiet (fail)
          have hbq := bdrewN hbw nq
          generalize wr.drewN nq = wq at hbq ⊢
          go_wp2_with fail
          go_quiet ((go_at_call 39; exact numbers_q _ _ _ _))
          go_wp2_with fail
          go_ret
          exact ⟨rfl, (by repeat (first | with_reducible exact Below.refl _ _ | with_reducible assumption | ((with_reducible refine Below.alloc ?_ ?_ _); rotate_left; (first | exact Nat.le_refl _ | (simp; done) | (simp; omega) | omega)) | ((with_reducible refine Below.setCell ?_ ?_ _); rotate_left; (first | exact Nat.le_refl _ | (simp; done) | (simp; omega) | omega)) | (with_reducible refine Below.drew ?_) | (with_reducible refine bdrewN ?_ _)))⟩
      · have h2' : (b.length : Int) ≤ (k : Int) := by omega
        have hend : ANS = cmpN a.length b.length := by
          rw [← unhide hv, List.drop_of_length_le (show b.length ≤ k by omega), textCmp, cmpN, if_neg (by omega), if_pos (by omega)]
        subst hend
        clear hv
        go_wp2_with (go_at_call 39; refine (numbers_any _ _ _).mono ?_; rintro e w1 ⟨rfl, rfl⟩)
        go_ret
        exact ⟨rfl, (by repeat (first | with_reducible exact Below.refl _ _ | with_reducible assumption | ((with_reducible refine Below.alloc ?_ ?_ _); rotate_left; (first | exact Nat.le_refl _ | (simp; done) | (simp; omega) | omega)) | ((with_reducible refine Below.setCell ?_ ?_ _); rotate_left; (first | exact Nat.le_refl _ | (simp; done) | (simp; omega) | omega)) | (with_reducible refine Below.drew ?_) | (with_reducible refine bdrewN ?_ _)))⟩
    · have h1' : (a.length : Int) ≤ (k : Int) := by omega
      have hend : ANS = cmpN a.length b.length := by
        rw [← unhide hv, List.drop_of_length_le (show a.length ≤ k by omega)]
        rcases hd : b.drop k with _ | ⟨y, r⟩
        · have : b.length ≤ k := List.drop_eq_nil_iff.1 hd
          rw [textCmp, cmpN, if_neg (by omega), if_neg (by omega)]
        · have : k < b.length := by
            rcases Nat.lt_or_ge k b.length with h' | h'
            · exact h'
            · rw [List.drop_of_length_le h'] at hd; cases hd
          rw [textCmp, cmpN, if_pos (by omega)]
      subst hend
      clear hv
      go_wp2_with (go_at_call 39; refine (numbers_any _ _ _).mono ?_; rintro e w1 ⟨rfl, rfl⟩)
      go_ret
      exact ⟨rfl, (by repeat (first | with_reducible exact Below.refl _ _ | with_reducible assumption | ((with_reducible refine Below.alloc ?_ ?_ _); rotate_left; (first | exact Nat.le_refl _ | (simp; done) | (simp; omega) | omega)) | ((with_reducible refine Below.setCell ?_ ?_ _); rotate_left; (first | exact Nat.le_refl _ | (simp; done) | (simp; omega) | omega)) | (with_reducible refine Below.drew ?_) | (with_reducible refine bdrewN ?_ _)))⟩

set_option maxRecDepth 100000 in
set_option maxHeartbeats 1000000 in
theorem refAbove_any (w : World) (l : List UInt8) (hl : l.length ≤ 1000000) :
    Calls Tryd.prog 24 #[.string ⟨l.toArray⟩] w (Ret w (.string ⟨(aboveL l).toArray⟩)) := by
  obtain ⟨ANS, hA⟩ : ∃ r, aboveL l = r := ⟨_, rfl⟩
  rw [hA]
  have HA := hide hA
  clear hA
  go_enter Tryd.func24, Tryd.ntmps24
  go_wp2_with fail
  go_loop [3] (fun v => ∃ k : Nat, k ≤ l.length ∧ v = .int .i64 (k : Int) ∧ Hid (bump (strip (l.take k)) = ANS)) (fun v => (intOf v).toNat)
  case atStart => exact ⟨l.length, by omega, rfl, hide (by rw [List.take_of_length_le (Nat.le_refl _)]; exact unhide HA)⟩
  case round =>
    obtain ⟨k, hk, rfl, hv⟩ := hrel
    clear HA
    rcases k with _ | k
    · have hend : ANS = [] := by rw [← unhide hv]; rfl
      subst hend
      clear hv
      have hz : (((0 : Nat) : Int)) = 0 := rfl
      go_wp2_with fail
      go_ret
      exact ⟨rfl, (by repeat (first | with_reducible exact Below.refl _ _ | with_reducible assumption | ((with_reducible refine Below.alloc ?_ ?_ _); rotate_left; (first | exact Nat.le_refl _ | (simp; done) | (simp; omega) | omega)) | ((with_reducible refine Below.setCell ?_ ?_ _); rotate_left; (first | exact Nat.le_refl _ | (simp; done) | (simp; omega) | omega)) | (with_reducible refine Below.drew ?_) | (with_reducible refine bdrewN ?_ _)))⟩
    · have hk1 : k < l.length := by omega
      obtain ⟨x, hx⟩ : ∃ x, l[k]? = some x := ⟨l[k], by simp⟩
      have hbx := byteAt hx
      have h255 : (x.toNat : Int) < 256 := by have := x.toNat_lt; omega
      have h0 : (0 : Int) ≤ (x.toNat : Int) := by omega
      have hk0 : (0 : Int) < (k : Int) + 1 := by omega
      have hk2 : (k : Int) < (l.length : Int) := by omega
      by_cases hx2 : x = 255
      · have hz : (x.toNat : Int) = 255 := by rw [hx2]; rfl
        have hv2 : Hid (bump (strip (l.take k)) = ANS) := hide (by
          have := unhide hv
          rw [take_last hx, hx2, strip_last] at this
          exact this)
        clear h255 h0 hx hx2 hv
        go_wp2_with fail
        go_round
        case rel => exact ⟨k, by omega, by go_num, hv2⟩
        case measure => exact (by first | (simp [intOf]; done) | (simp [intOf]; omega))
      · have hz : ((x.toNat : Int) == 255) = false := beq_u8 (n := 255) (by omega) hx2
        have hend : ANS = l.take k ++ [x + 1] := by
          have := unhide hv
          rw [take_last hx, strip_stop hx2, bump_last] at this
          exact this.symm
        subst hend
        clear hx hv hx2
        go_wp2_with fail
        have hcv : ∀ W : World, (convert 25 9 (.slice (some ⟨W.heap.size, 0, none⟩) 1 1)).run Tryd.prog (W.alloc (.cells #[.int .u8 (((x.toNat : Int) + 1) % 256)] 5)).drew = .ok (.string ⟨#[x + 1]⟩) (W.alloc (.cells #[.int .u8 (((x.toNat : Int) + 1) % 256)] 5)).drew := fun W =>
          run_sl_string _ _ _ _ Tryd.underlying25 Tryd.underlying5 Tryd.underlying9 _ 1 1 [x + 1] (Sl.drew (Sl.new1 W _ _ _ (by rw [UInt8.toNat_add]; rfl)))
        have hk00 : (0 : Int) ≤ (k : Int) := by omega
        have hkl : (k : Int) ≤ (l.length : Int) := by omega
        go_region
        go_wp2_with fail
        go_ret
        refine ⟨?_, ((Below.refl _ _).alloc (Nat.le_refl _) _).drew⟩
        have e := str_cut l 0 k
        simp only [List.drop_zero, Nat.sub_zero] at e
        rw [← str_app, ← e]
        rfl
end Go.Proofs.YtclhnfalebiieaaDoor
