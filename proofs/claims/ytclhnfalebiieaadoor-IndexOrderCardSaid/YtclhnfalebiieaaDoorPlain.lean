/-
  The reference's Plain: a right value, or null.
-/
import Derived.Test.YtclhnfalebiieaaDoorVals
set_option linter.unusedVariables false
set_option linter.unusedSimpArgs false
namespace Go.Proofs.YtclhnfalebiieaaDoor
open Go.RowKit

/-- the reference's Plain: a right value, or null -/
theorem plain_any (x : Val) (w : World) (hx : x.s.length ≤ 9223372036854775807) : Calls Tryd.prog 13 #[.agg #[.int .i64 x.kind, .int .i64 x.n, .int .i64 x.scale, .string ⟨x.s.toArray⟩]] w
    (Ret w (.agg #[.int .i64 (plain x).kind, .int .i64 (plain x).n, .int .i64 (plain x).scale, .string ⟨(plain x).s.toArray⟩])) := by
  have hc := fun w => refRight_any x w hx
  unfold plain
  rcases hr : right x with _ | _
  all_goals
    rw [hr] at hc
    have Hc := hide hc
    clear hc hr hx
    go_enter Tryd.func13, Tryd.ntmps13
    go_wp2_with (go_at_call 20; refine (unhide Hc _).mono ?_; rintro e w1 ⟨rfl, hb⟩; have hbw : Below w.heap.size w w1 := below_step hb (by repeat (first | exact Below.refl _ _ | assumption | (refine Below.alloc ?_ (by first | exact Nat.le_refl _ | (simp; done) | (simp; omega) | omega) _) | (refine Below.setCell ?_ (by first | exact Nat.le_refl _ | (simp; done) | (simp; omega) | omega) _) | refine Below.drew ?_ | refine below_drewN ?_ _)) (by first | exact Nat.le_refl _ | (simp; done) | (simp; omega) | omega); obtain ⟨hb1, hb2, hb3⟩ := bcell hb; clear hb)
    refine bodyPost_ret (v := .agg #[.int .i64 _, .int .i64 _, .int .i64 _, .string ⟨_⟩]) (by simp [results, Tryd.results13, go_sem, hb1, vnull]) rfl ⟨rfl, (by repeat (first | exact Below.refl _ _ | assumption | (refine Below.alloc ?_ (by first | exact Nat.le_refl _ | (simp; done) | (simp; omega) | omega) _) | (refine Below.setCell ?_ (by first | exact Nat.le_refl _ | (simp; done) | (simp; omega) | omega) _) | refine Below.drew ?_ | refine below_drewN ?_ _))⟩
end Go.Proofs.YtclhnfalebiieaaDoor
