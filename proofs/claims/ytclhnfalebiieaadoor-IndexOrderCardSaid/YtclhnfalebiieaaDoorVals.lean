/-
  Layer 3's Right, the program's and the reference's: both say which values are right. Condition of the program's: the two tables of unicode/utf8 lie as their text lays them.
-/
import Derived.Test.YtclhnfalebiieaaDoorUtf
import Derived.Test.YtclhnfalebiieaaDoorLay
set_option linter.unusedVariables false
set_option linter.unusedSimpArgs false
namespace Go.Proofs.YtclhnfalebiieaaDoor
open Go.RowKit

theorem decRight_any (w : World) (k : Int) : Calls Tryd.prog 52 #[.int .i64 k] w fun e w' => e = .returned (.bool (scaleOk k)) ∧ w = w' := by
  unfold scaleOk
  by_cases h : 0 ≤ k
  · go_enter Tryd.func52, Tryd.ntmps52
    go_wp2_with fail
    go_ret
    exact ⟨by rw [decide_eq_true h, Bool.true_and]; rfl, rfl⟩
  · have h' : k < 0 := by omega
    rw [decide_eq_false h, Bool.false_and]
    clear h
    go_enter Tryd.func52, Tryd.ntmps52
    go_wp2_with fail
    go_ret
    exact ⟨rfl, rfl⟩
theorem refScale_any (w : World) (k : Int) : Calls Tryd.prog 36 #[.int .i64 k] w fun e w' => e = .returned (.bool (scaleOk k)) ∧ w = w' := by
  unfold scaleOk
  by_cases h : 0 ≤ k
  · go_enter Tryd.func36, Tryd.ntmps36
    go_wp2_with fail
    go_ret
    exact ⟨by rw [decide_eq_true h, Bool.true_and]; rfl, rfl⟩
  · have h' : k < 0 := by omega
    rw [decide_eq_false h, Bool.false_and]
    clear h
    go_enter Tryd.func36, Tryd.ntmps36
    go_wp2_with fail
    go_ret
    exact ⟨rfl, rfl⟩

theorem and_one_cases (n : Int) : bits BinOp.and IntKind.i64 n 1 = 0 ∨ bits BinOp.and IntKind.i64 n 1 = 1 := by
  have h1 : (BitVec.ofInt 64 (1 : Int)).toNat = 1 := by decide
  have e : bits BinOp.and IntKind.i64 n 1 = IntKind.i64.wrap ((BitVec.ofInt 64 n &&& BitVec.ofInt 64 1).toNat : Int) := rfl
  rw [e, BitVec.toNat_and, h1, Nat.and_one_is_mod, IntKind.wrap_i64]
  omega
theorem and_one_self (n : Int) : n = bits BinOp.and IntKind.i64 n 1 ↔ (n = 0 ∨ n = 1) := by
  constructor
  · intro h
    rcases and_one_cases n with e | e <;> rw [e] at h <;> omega
  · rintro (rfl | rfl) <;> decide

set_option maxRecDepth 100000 in
set_option maxHeartbeats 4000000 in
theorem right_any (x : Val) (w : World) (hT : Tabs w) : Calls Tryd.prog 34 #[.agg #[.int .i64 x.kind, .int .i64 x.n, .int .i64 x.scale, .string ⟨x.s.toArray⟩]] w (Ret w (.bool (right x))) := by
  obtain ⟨k, n, sc, s⟩ := x
  by_cases h0 : k = 0
  · subst h0
    go_enter Tryd.func34, Tryd.ntmps34
    go_wp2_with fail
    all_goals go_ret
    all_goals exact ⟨by simp [right, *], (by repeat (first | exact Below.refl _ _ | assumption | (refine Below.alloc ?_ (by first | exact Nat.le_refl _ | (simp; done) | (simp; omega) | omega) _) | (refine Below.setCell ?_ (by first | exact Nat.le_refl _ | (simp; done) | (simp; omega) | omega) _) | refine Below.drew ?_ | refine below_drewN ?_ _))⟩
  by_cases h1 : k = 1
  · subst h1
    obtain ⟨r, hr⟩ : ∃ r, bits BinOp.and IntKind.i64 n 1 = r := ⟨_, rfl⟩
    have hr1 := and_one_self n
    rw [hr] at hr1
    have Hr1 := hide hr1
    clear hr1 h0
    go_enter Tryd.func34, Tryd.ntmps34
    go_wp2_with fail
    all_goals go_ret
    all_goals exact ⟨by have := unhide Hr1; simp_all [right], (by repeat (first | exact Below.refl _ _ | assumption | (refine Below.alloc ?_ (by first | exact Nat.le_refl _ | (simp; done) | (simp; omega) | omega) _) | (refine Below.setCell ?_ (by first | exact Nat.le_refl _ | (simp; done) | (simp; omega) | omega) _) | refine Below.drew ?_ | refine below_drewN ?_ _))⟩
  by_cases h2 : k = 2
  · subst h2
    clear h0 h1
    go_enter Tryd.func34, Tryd.ntmps34
    go_wp2_with fail
    all_goals go_ret
    all_goals exact ⟨by simp [right, *], (by repeat (first | exact Below.refl _ _ | assumption | (refine Below.alloc ?_ (by first | exact Nat.le_refl _ | (simp; done) | (simp; omega) | omega) _) | (refine Below.setCell ?_ (by first | exact Nat.le_refl _ | (simp; done) | (simp; omega) | omega) _) | refine Below.drew ?_ | refine below_drewN ?_ _))⟩
  by_cases h3 : k = 3
  · subst h3
    clear h0 h1 h2
    go_enter Tryd.func34, Tryd.ntmps34
    go_wp2_with (go_at_call 52; refine (decRight_any _ _).mono ?_; rintro e w' ⟨rfl, rfl⟩)
    all_goals go_ret
    all_goals exact ⟨by simp [right, scaleOk, *], (by repeat (first | exact Below.refl _ _ | assumption | (refine Below.alloc ?_ (by first | exact Nat.le_refl _ | (simp; done) | (simp; omega) | omega) _) | (refine Below.setCell ?_ (by first | exact Nat.le_refl _ | (simp; done) | (simp; omega) | omega) _) | refine Below.drew ?_ | refine below_drewN ?_ _))⟩
  by_cases h4 : k = 4
  · subst h4
    clear h0 h1 h2 h3
    by_cases hl : s.length ≤ 200
    · have hl' : (s.length : Int) ≤ 200 := by omega
      obtain ⟨V, hV⟩ : ∃ V, Lib.validD s = V := ⟨_, rfl⟩
      have hv : ∀ w, Tabs w → Calls Tryd.prog 53 #[.string ⟨s.toArray⟩] w (Ret w (.bool V)) := fun w h => by rw [← hV]; exact valid_any s w (by omega) h
      have HV := hide hV
      have Hv := hide hv
      clear hV hv
      go_enter Tryd.func34, Tryd.ntmps34
      go_wp2_with (go_at_call 53; refine (unhide Hv _ (hT.below (by repeat (first | exact Below.refl _ _ | assumption | (refine Below.alloc ?_ (by first | exact Nat.le_refl _ | (simp; done) | (simp; omega) | omega) _) | (refine Below.setCell ?_ (by first | exact Nat.le_refl _ | (simp; done) | (simp; omega) | omega) _) | refine Below.drew ?_ | refine below_drewN ?_ _)))).mono ?_; rintro e w' ⟨rfl, hb'⟩)
      all_goals go_ret
      · exact ⟨by simp [right, unhide HV, *], (Below.trans ((Below.refl _ _).alloc (Nat.le_refl _) _) (hb'.mono (by simp)))⟩
      all_goals exact ⟨by simp [right, *], (by repeat (first | exact Below.refl _ _ | assumption | (refine Below.alloc ?_ (by first | exact Nat.le_refl _ | (simp; done) | (simp; omega) | omega) _) | (refine Below.setCell ?_ (by first | exact Nat.le_refl _ | (simp; done) | (simp; omega) | omega) _) | refine Below.drew ?_ | refine below_drewN ?_ _))⟩
    · have hl' : (200 : Int) < (s.length : Int) := by omega
      go_enter Tryd.func34, Tryd.ntmps34
      go_wp2_with fail
      all_goals go_ret
      all_goals exact ⟨by simp [right, hl, *], (by repeat (first | exact Below.refl _ _ | assumption | (refine Below.alloc ?_ (by first | exact Nat.le_refl _ | (simp; done) | (simp; omega) | omega) _) | (refine Below.setCell ?_ (by first | exact Nat.le_refl _ | (simp; done) | (simp; omega) | omega) _) | refine Below.drew ?_ | refine below_drewN ?_ _))⟩
  by_cases h5 : k = 5
  · subst h5
    clear h0 h1 h2 h3 h4
    by_cases hl : s.length ≤ 200
    · have hl' : (s.length : Int) ≤ 200 := by omega
      go_enter Tryd.func34, Tryd.ntmps34
      go_wp2_with fail
      all_goals go_ret
      all_goals exact ⟨by simp [right, hl, *], (by repeat (first | exact Below.refl _ _ | assumption | (refine Below.alloc ?_ (by first | exact Nat.le_refl _ | (simp; done) | (simp; omega) | omega) _) | (refine Below.setCell ?_ (by first | exact Nat.le_refl _ | (simp; done) | (simp; omega) | omega) _) | refine Below.drew ?_ | refine below_drewN ?_ _))⟩
    · have hl' : (200 : Int) < (s.length : Int) := by omega
      go_enter Tryd.func34, Tryd.ntmps34
      go_wp2_with fail
      all_goals go_ret
      all_goals exact ⟨by simp [right, hl, *], (by repeat (first | exact Below.refl _ _ | assumption | (refine Below.alloc ?_ (by first | exact Nat.le_refl _ | (simp; done) | (simp; omega) | omega) _) | (refine Below.setCell ?_ (by first | exact Nat.le_refl _ | (simp; done) | (simp; omega) | omega) _) | refine Below.drew ?_ | refine below_drewN ?_ _))⟩
  have e0 : (k == 0) = false := by simp [h0]
  have e1 : (k == 1) = false := by simp [h1]
  have e2 : (k == 2) = false := by simp [h2]
  have e3 : (k == 3) = false := by simp [h3]
  have e4 : (k == 4) = false := by simp [h4]
  have e5 : (k == 5) = false := by simp [h5]
  have hr : right ⟨k, n, sc, s⟩ = false := by simp [right, h0, h1, h2, h3, h4, h5]
  rw [hr]
  clear hr h0 h1 h2 h3 h4 h5
  go_enter Tryd.func34, Tryd.ntmps34
  go_wp2_with fail
  all_goals go_ret
  all_goals exact ⟨rfl, (by repeat (first | exact Below.refl _ _ | assumption | (refine Below.alloc ?_ (by first | exact Nat.le_refl _ | (simp; done) | (simp; omega) | omega) _) | (refine Below.setCell ?_ (by first | exact Nat.le_refl _ | (simp; done) | (simp; omega) | omega) _) | refine Below.drew ?_ | refine below_drewN ?_ _))⟩

set_option maxRecDepth 100000 in
set_option maxHeartbeats 4000000 in
theorem refRight_any (x : Val) (w : World) (hx : x.s.length ≤ 9223372036854775807) : Calls Tryd.prog 20 #[.agg #[.int .i64 x.kind, .int .i64 x.n, .int .i64 x.scale, .string ⟨x.s.toArray⟩]] w (Ret w (.bool (right x))) := by
  obtain ⟨k, n, sc, s⟩ := x
  replace hx : s.length ≤ 9223372036854775807 := hx
  by_cases h0 : k = 0
  · subst h0
    go_enter Tryd.func20, Tryd.ntmps20
    go_wp2_with fail
    all_goals go_ret
    all_goals exact ⟨by simp [right, *], (by repeat (first | exact Below.refl _ _ | assumption | (refine Below.alloc ?_ (by first | exact Nat.le_refl _ | (simp; done) | (simp; omega) | omega) _) | (refine Below.setCell ?_ (by first | exact Nat.le_refl _ | (simp; done) | (simp; omega) | omega) _) | refine Below.drew ?_ | refine below_drewN ?_ _))⟩
  by_cases h1 : k = 1
  · subst h1
    clear h0
    by_cases n0 : n = 0
    · subst n0
      go_enter Tryd.func20, Tryd.ntmps20
      go_wp2_with fail
      all_goals go_ret
      all_goals exact ⟨by simp [right, *], (by repeat (first | exact Below.refl _ _ | assumption | (refine Below.alloc ?_ (by first | exact Nat.le_refl _ | (simp; done) | (simp; omega) | omega) _) | (refine Below.setCell ?_ (by first | exact Nat.le_refl _ | (simp; done) | (simp; omega) | omega) _) | refine Below.drew ?_ | refine below_drewN ?_ _))⟩
    by_cases n1 : n = 1
    · subst n1
      clear n0
      go_enter Tryd.func20, Tryd.ntmps20
      go_wp2_with fail
      all_goals go_ret
      all_goals exact ⟨by simp [right, *], (by repeat (first | exact Below.refl _ _ | assumption | (refine Below.alloc ?_ (by first | exact Nat.le_refl _ | (simp; done) | (simp; omega) | omega) _) | (refine Below.setCell ?_ (by first | exact Nat.le_refl _ | (simp; done) | (simp; omega) | omega) _) | refine Below.drew ?_ | refine below_drewN ?_ _))⟩
    have hr : right ⟨1, n, sc, s⟩ = false := by simp [right, n0, n1]
    rw [hr]
    have e0 : (n != 0) = true := by simp [n0]
    have e1 : (n != 1) = true := by simp [n1]
    clear hr n0 n1
    go_enter Tryd.func20, Tryd.ntmps20
    go_wp2_with fail
    all_goals go_ret
    all_goals exact ⟨rfl, (by repeat (first | exact Below.refl _ _ | assumption | (refine Below.alloc ?_ (by first | exact Nat.le_refl _ | (simp; done) | (simp; omega) | omega) _) | (refine Below.setCell ?_ (by first | exact Nat.le_refl _ | (simp; done) | (simp; omega) | omega) _) | refine Below.drew ?_ | refine below_drewN ?_ _))⟩
  by_cases h2 : k = 2
  · subst h2
    clear h0 h1
    go_enter Tryd.func20, Tryd.ntmps20
    go_wp2_with fail
    all_goals go_ret
    all_goals exact ⟨by simp [right, *], (by repeat (first | exact Below.refl _ _ | assumption | (refine Below.alloc ?_ (by first | exact Nat.le_refl _ | (simp; done) | (simp; omega) | omega) _) | (refine Below.setCell ?_ (by first | exact Nat.le_refl _ | (simp; done) | (simp; omega) | omega) _) | refine Below.drew ?_ | refine below_drewN ?_ _))⟩
  by_cases h3 : k = 3
  · subst h3
    clear h0 h1 h2
    obtain ⟨S, hS⟩ : ∃ S, scaleOk sc = S := ⟨_, rfl⟩
    have hs : ∀ w, Calls Tryd.prog 36 #[.int .i64 sc] w fun e w' => e = .returned (.bool S) ∧ w = w' := fun w => by rw [← hS]; exact refScale_any w sc
    have hr : right ⟨3, n, sc, s⟩ = (S && decide (s = [])) := by
      rw [← hS]; simp only [right, scaleOk]; rw [Bool.eq_iff_iff]; simp; constructor <;> (intro h; simp_all)
    rw [hr]
    clear hS hr
    have Hs := hide hs
    clear hs
    rcases S with _ | _
    · go_enter Tryd.func20, Tryd.ntmps20
      go_wp2_with (go_at_call 36; refine (unhide Hs _).mono ?_; rintro e w' ⟨rfl, rfl⟩)
      all_goals go_ret
      all_goals exact ⟨by simp, (by repeat (first | exact Below.refl _ _ | assumption | (refine Below.alloc ?_ (by first | exact Nat.le_refl _ | (simp; done) | (simp; omega) | omega) _) | (refine Below.setCell ?_ (by first | exact Nat.le_refl _ | (simp; done) | (simp; omega) | omega) _) | refine Below.drew ?_ | refine below_drewN ?_ _))⟩
    · go_enter Tryd.func20, Tryd.ntmps20
      go_wp2_with (go_at_call 36; refine (unhide Hs _).mono ?_; rintro e w' ⟨rfl, rfl⟩)
      all_goals go_ret
      all_goals exact ⟨by simp [*], (by repeat (first | exact Below.refl _ _ | assumption | (refine Below.alloc ?_ (by first | exact Nat.le_refl _ | (simp; done) | (simp; omega) | omega) _) | (refine Below.setCell ?_ (by first | exact Nat.le_refl _ | (simp; done) | (simp; omega) | omega) _) | refine Below.drew ?_ | refine below_drewN ?_ _))⟩
  by_cases h4 : k = 4
  · subst h4
    clear h0 h1 h2 h3
    by_cases hl : s.length ≤ 200
    · have hl' : (s.length : Int) ≤ 200 := by omega
      obtain ⟨V, hV⟩ : ∃ V, Lib.validD s = V := ⟨_, rfl⟩
      have hv : ∀ w, Calls Tryd.prog 37 #[.string ⟨s.toArray⟩] w fun e w' => e = .returned (.bool V) ∧ w = w' := fun w => by rw [← hV]; exact utf_any s w (by omega)
      have HV := hide hV
      have Hv := hide hv
      clear hV hv
      rcases V with _ | _
      all_goals
        go_enter Tryd.func20, Tryd.ntmps20
        go_wp2_with (go_at_call 37; refine (unhide Hv _).mono ?_; rintro e w' ⟨rfl, rfl⟩)
        all_goals go_ret
        all_goals exact ⟨by simp [right, unhide HV, *], (by repeat (first | exact Below.refl _ _ | assumption | (refine Below.alloc ?_ (by first | exact Nat.le_refl _ | (simp; done) | (simp; omega) | omega) _) | (refine Below.setCell ?_ (by first | exact Nat.le_refl _ | (simp; done) | (simp; omega) | omega) _) | refine Below.drew ?_ | refine below_drewN ?_ _))⟩
    · have hl' : (200 : Int) < (s.length : Int) := by omega
      go_enter Tryd.func20, Tryd.ntmps20
      go_wp2_with fail
      all_goals go_ret
      all_goals exact ⟨by simp [right, hl, *], (by repeat (first | exact Below.refl _ _ | assumption | (refine Below.alloc ?_ (by first | exact Nat.le_refl _ | (simp; done) | (simp; omega) | omega) _) | (refine Below.setCell ?_ (by first | exact Nat.le_refl _ | (simp; done) | (simp; omega) | omega) _) | refine Below.drew ?_ | refine below_drewN ?_ _))⟩
  by_cases h5 : k = 5
  · subst h5
    clear h0 h1 h2 h3 h4
    by_cases hl : s.length ≤ 200
    · have hl' : (s.length : Int) ≤ 200 := by omega
      go_enter Tryd.func20, Tryd.ntmps20
      go_wp2_with fail
      all_goals go_ret
      all_goals exact ⟨by simp [right, hl, *], (by repeat (first | exact Below.refl _ _ | assumption | (refine Below.alloc ?_ (by first | exact Nat.le_refl _ | (simp; done) | (simp; omega) | omega) _) | (refine Below.setCell ?_ (by first | exact Nat.le_refl _ | (simp; done) | (simp; omega) | omega) _) | refine Below.drew ?_ | refine below_drewN ?_ _))⟩
    · have hl' : (200 : Int) < (s.length : Int) := by omega
      go_enter Tryd.func20, Tryd.ntmps20
      go_wp2_with fail
      all_goals go_ret
      all_goals exact ⟨by simp [right, hl, *], (by repeat (first | exact Below.refl _ _ | assumption | (refine Below.alloc ?_ (by first | exact Nat.le_refl _ | (simp; done) | (simp; omega) | omega) _) | (refine Below.setCell ?_ (by first | exact Nat.le_refl _ | (simp; done) | (simp; omega) | omega) _) | refine Below.drew ?_ | refine below_drewN ?_ _))⟩
  have e0 : (k == 0) = false := by simp [h0]
  have e1 : (k == 1) = false := by simp [h1]
  have e2 : (k == 2) = false := by simp [h2]
  have e3 : (k == 3) = false := by simp [h3]
  have e4 : (k == 4) = false := by simp [h4]
  have e5 : (k == 5) = false := by simp [h5]
  have hr : right ⟨k, n, sc, s⟩ = false := by simp [right, h0, h1, h2, h3, h4, h5]
  rw [hr]
  clear hr h0 h1 h2 h3 h4 h5
  go_enter Tryd.func20, Tryd.ntmps20
  go_wp2_with fail
  all_goals go_ret
  all_goals exact ⟨rfl, (by repeat (first | exact Below.refl _ _ | assumption | (refine Below.alloc ?_ (by first | exact Nat.le_refl _ | (simp; done) | (simp; omega) | omega) _) | (refine Below.setCell ?_ (by first | exact Nat.le_refl _ | (simp; done) | (simp; omega) | omega) _) | refine Below.drew ?_ | refine below_drewN ?_ _))⟩

end Go.Proofs.YtclhnfalebiieaaDoor
