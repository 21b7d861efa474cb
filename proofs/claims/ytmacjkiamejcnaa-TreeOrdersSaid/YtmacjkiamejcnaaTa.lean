/-
  The tree's small functions (printed by wip/gen/ta.py).
-/
import Derived.Test.YtmacjkiamejcnaaSp
set_option linter.unusedVariables false
set_option linter.unusedSimpArgs false
set_option maxRecDepth 100000
namespace Go.Proofs.Ytmacjkiamejcnaa
open Go.RowKit
def NGt : Nat := 0
def Wt : World → Prop := fun _ => True
theorem wokt : WOK NGt Wt := fun _ _ _ _ => trivial
theorem cond_nat {R : Type} {b : Bool} {x : PV} {k : PV → Option R} : (bif b then k x else none) = (bif b then some x else none).bind k := by cases b <;> rfl
theorem leaf_raw (kn : Option Bool) (kl : Nat) (kc : List PV) (vn : Option Bool) (vl : Nat) (vc : List PV) (ni : Bool) (il : Nat) (ic : List PV) (c : Int) : prun (en []) ⟨[], []⟩ 0 false Try.f71 [.eptr [.sl kn 1 kl kc, .sl vn 1 vl vc, .sl (some ni) 1 il ic, .int .i64 c]] = some (.bool ni) := by kernel_rfl
def p_leaf : PFn := ⟨fun xs k => match xs with | [.eptr [.sl kn 1 kl kc, .sl vn 1 vl vc, .sl (some ni) 1 il ic, .int .i64 c]] => k (.bool ni) | _ => none, false⟩
theorem ok_leaf : FOK NGt Wt 71 p_leaf := by
  refine fok wokt allOK_nil (h := ⟨[], []⟩) Try.func71 rfl (by decide) ?_ ?_
  · intro R xs k
    simp only [p_leaf]
    split
    · rfl
    · rfl
  · intro xs r h
    simp only [p_leaf] at h
    split at h
    · rename_i kn kl kc vn vl vc ni il ic c
      exact ⟨0, (leaf_raw kn kl kc vn vl vc ni il ic c).trans h⟩
    · cases h
theorem size_raw (kn : Option Bool) (kl : Nat) (kc : List PV) (vn : Option Bool) (vl : Nat) (vc : List PV) (ni : Bool) (il : Nat) (ic : List PV) (c : Int) : prun (en []) ⟨[], []⟩ 0 false Try.f98 [.eptr [.sl kn 1 kl kc, .sl vn 1 vl vc, .sl (some ni) 1 il ic, .int .i64 c]] = some (.int .i64 (kl : Int)) := by kernel_rfl
def p_size : PFn := ⟨fun xs k => match xs with | [.eptr [.sl kn 1 kl kc, .sl vn 1 vl vc, .sl (some ni) 1 il ic, .int .i64 c]] => k (.int .i64 (kl : Int)) | _ => none, false⟩
theorem ok_size : FOK NGt Wt 98 p_size := by
  refine fok wokt allOK_nil (h := ⟨[], []⟩) Try.func98 rfl (by decide) ?_ ?_
  · intro R xs k
    simp only [p_size]
    split
    · rfl
    · rfl
  · intro xs r h
    simp only [p_size] at h
    split at h
    · rename_i kn kl kc vn vl vc ni il ic c
      exact ⟨0, (size_raw kn kl kc vn vl vc ni il ic c).trans h⟩
    · cases h
theorem leafOf_raw (kn : Option Bool) (kl : Nat) (kc : List PV) (vn : Option Bool) (vl : Nat) (vc : List PV) : prun (en []) ⟨[], []⟩ 0 false Try.f67 [.sl kn 1 kl kc, .sl vn 1 vl vc] = some (.eptr [.sl kn 1 kl kc, .sl vn 1 vl vc, .sl (some true) 1 0 [], .int .i64 (kl : Int)]) := by kernel_rfl
def p_leafOf : PFn := ⟨fun xs k => match xs with | [.sl kn 1 kl kc, .sl vn 1 vl vc] => k (.eptr [.sl kn 1 kl kc, .sl vn 1 vl vc, .sl (some true) 1 0 [], .int .i64 (kl : Int)]) | _ => none, false⟩
theorem ok_leafOf : FOK NGt Wt 67 p_leafOf := by
  refine fok wokt allOK_nil (h := ⟨[], []⟩) Try.func67 rfl (by decide) ?_ ?_
  · intro R xs k
    simp only [p_leafOf]
    split
    · rfl
    · rfl
  · intro xs r h
    simp only [p_leafOf] at h
    split at h
    · rename_i kn kl kc vn vl vc
      exact ⟨0, (leafOf_raw kn kl kc vn vl vc).trans h⟩
    · cases h
theorem place_raw (kn : Option Bool) (kl : Nat) (kc : List PV) (vn : Option Bool) (vl : Nat) (vc : List PV) (ni : Bool) (il : Nat) (ic : List PV) (c : Int) (x : List UInt8) : prun (en [(91, p_bs)]) ⟨[], []⟩ 0 false Try.f73 [.eptr [.sl kn 1 kl kc, .sl vn 1 vl vc, .sl (some ni) 1 il ic, .int .i64 c], .str x] = (bif kc.all isStr && (decide (kc.length = kl) && (decide (0 < kl) && decide (kl ≤ 1000000))) then some (.tuple [.int .i64 (placeI kc x : Nat), .bool (decide (placeI kc x < kl) && strAt kc (placeI kc x) == x)]) else none) := by kernel_rfl
def p_place : PFn := ⟨fun xs k => match xs with | [.eptr [.sl kn 1 kl kc, .sl vn 1 vl vc, .sl (some ni) 1 il ic, .int .i64 c], .str x] => bif kc.all isStr && (decide (kc.length = kl) && (decide (0 < kl) && decide (kl ≤ 1000000))) then k (.tuple [.int .i64 (placeI kc x : Nat), .bool (decide (placeI kc x < kl) && strAt kc (placeI kc x) == x)]) else none | _ => none, false⟩
theorem ok_place : FOK NGt Wt 73 p_place := by
  refine fok wokt (allOK_cons ok_bs allOK_nil) (h := ⟨[], []⟩) Try.func73 rfl (by decide) ?_ ?_
  · intro R xs k
    simp only [p_place]
    split
    · exact cond_nat
    · rfl
  · intro xs r h
    simp only [p_place] at h
    split at h
    · rename_i kn kl kc vn vl vc ni il ic c x
      rcases hb : (kc.all isStr && (decide (kc.length = kl) && (decide (0 < kl) && decide (kl ≤ 1000000)))) with _ | _ <;> rw [hb] at h
      · cases h
      · exact ⟨0, (((place_raw kn kl kc vn vl vc ni il ic c x).trans (by rw [hb]))).trans h⟩
    · cases h
end Go.Proofs.Ytmacjkiamejcnaa
