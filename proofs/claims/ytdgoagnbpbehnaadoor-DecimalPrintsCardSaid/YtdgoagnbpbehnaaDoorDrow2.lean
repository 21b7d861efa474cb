/-
  The decimals' seat: the two errors out of what a row lists.
-/
import Derived.Test.YtdgoagnbpbehnaaDoorDrow
import Derived.Test.YtdgoagnbpbehnaaDoorDb
import Derived.Stop.LaidErr
import Derived.ChangeMaps5
set_option linter.unusedVariables false
set_option linter.unusedSimpArgs false
namespace Go.Proofs.YtdgoagnbpbehnaaDoor
open Go.ChangeShapes Go.WideShapes Go.ChangeAt Go.RowKit

theorem star : "*" ++ "errors.errorString" = "*errors.errorString" := by decide
theorem row_err (u : TypeId) (h : Tryd.prog.typeName? 3 u = some "*errors.errorString") : u = 112 :=
  typeName_ptr_named (nm := "errors.errorString") (by rw [star]; kernel_rfl) (by kernel_rfl) (by decide) u (by rw [star]; exact h)
theorem gRangeT : (Tryd.prog.globals[2]?).map (·.type) = some 48 := by kernel_rfl
theorem gSyntaxT : (Tryd.prog.globals[1]?).map (·.type) = some 48 := by kernel_rfl
theorem we_of_laid {W : World} (h : laidMetH Tryd.prog laidList W) : We W := by
  have h' : laidMet Tryd.prog laidList W := h
  have h3 := h'.tail.tail.tail
  refine ⟨wd_of_laid h, ?_, ?_⟩
  · obtain ⟨a, s, hv, _⟩ := laid_sentinel h3.tail gSyntax gSyntaxT Tryd.underlying48 row_err Tryd.underlying112 Tryd.underlying114 rfl rfl Tryd.underlying9 (by kernel_rfl) (by kernel_rfl)
    exact ⟨_, _, hv⟩
  · obtain ⟨a, s, hv, _⟩ := laid_sentinel h3 gRange gRangeT Tryd.underlying48 row_err Tryd.underlying112 Tryd.underlying114 rfl rfl Tryd.underlying9 (by kernel_rfl) (by kernel_rfl)
    exact ⟨_, _, hv⟩
end Go.Proofs.YtdgoagnbpbehnaaDoor
