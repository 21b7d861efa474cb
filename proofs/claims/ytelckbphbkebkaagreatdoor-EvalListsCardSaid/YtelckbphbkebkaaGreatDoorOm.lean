/-
  Arguments that come in: slices of nodes; the law EvalLists.
-/
import Derived.Test.YtelckbphbkebkaaGreatDoorOn
import Derived.Test.YtelckbphbkebkaaGreatDoorVq
set_option linter.unusedVariables false
set_option linter.unusedSimpArgs false
set_option maxRecDepth 100000
namespace Go.Proofs.YtelckbphbkebkaaGreatDoor
open Go.ChangeShapes Go.WideShapes Go.ChangeAt Go.RowKit Go.Deep

theorem open_nodes {H : Type} {enc : TypeId × Value → H} {W W0 : World} {r : Reach} {b0 base : Nat} {sp : Nat → Bool} {held : Bool} {v : Value} {d : DataW H} {ps : List MemPlace}
    (hval : Value.okWide Tryz.prog W0 r b0 28 v) (hd : DataW.Trod enc Tryz.prog W base sp held 28 v d ps) : ∃ (l : List NdC) (D : Nat), (∀ x ∈ l, wfN D x) ∧ ArgU W (.sl none 11 l.length (ndC l)) v := by
  obtain ⟨A, n, c, rfl⟩ := okWide_slice Tryz.underlying28 hval
  obtain ⟨fuel, hf⟩ := hd
  obtain ⟨A', c', l, e, wl, B, hB⟩ := open_slR (f := NdC.cs) (Pa := wfN fuel) (size := 11) (by omega) Tryz.underlying28 (by kernel_rfl) NdC.cs_len (fun n cs' y hn h => node_trod fuel n cs' y (by omega) h) hf
  simp [Value.cells] at e
  obtain ⟨rfl, rfl, rfl⟩ := e
  exact ⟨l, fuel, wl, B, hB⟩
theorem evalListsLaw (W : World) (v0 v1 : Value) {l : List NdC} {row : List Val} {D : Nat} (hx : ∀ y ∈ l, wfN D y) (hr : ∀ v ∈ row, inI v.n = true) (a0 : ArgU W (.sl none 11 l.length (ndC l)) v0) (a1 : ArgU W (.sl none 4 row.length (rowC row)) v1) (hW : Wc W) :
    Calls Tryz.prog 5 #[v0, v1] W fun e W' => e = .returned (.bool true) ∧ Below W.heap.size W W' :=
  law_runA (vs := [v0, v1]) (xs := [.sl none 11 l.length (ndC l), .sl none 4 row.length (rowC row)]) (fuel := 1000001) (h := hEs) wokc ok_lEs Tryz.func5 hW (wc_size hW) (.cons a0 (.cons a1 .nil)) (es_law hx hr none none)
end Go.Proofs.YtelckbphbkebkaaGreatDoor
