/-
  slices.Concat of two slices (printed by wip/gen/tf.py).
-/
import Derived.Test.YtmacjkiamejcnaaTe
import Derived.Test.YtmacjkiamejcnaaSk
set_option linter.unusedVariables false
set_option linter.unusedSimpArgs false
set_option maxRecDepth 100000
namespace Go.Proofs.Ytmacjkiamejcnaa
open Go.RowKit
def hCat : Hints := ⟨[], [(2, ⟨[(6, true), (25, false), (26, false), (27, false)], []⟩), (0, ⟨[(0, false), (3, false), (9, false), (10, false), (11, false)], []⟩)]⟩
noncomputable def catR (e : TypeId) (l1 : Nat) (c1 : List PV) (l2 : Nat) (c2 : List PV) (W1 W2 : Int) : Option PV :=
  bif decide (W1 < 0) then none else bif decide (W2 < 0) then none else
  bif decide (0 < W2) && decide (W2 ≤ 1000000) then
  bif decide (0 + l1 ≤ 9223372036854775807) && decide ((0 + l1) * bytesOf Try.prog e ≤ roomB) then
  bif decide (0 + l1 + l2 ≤ 9223372036854775807) && decide ((0 + l1 + l2) * bytesOf Try.prog e ≤ roomB) then
    some (.sl (some false) 1 (0 + l1 + l2) (([] ++ c1) ++ c2)) else none else none else none
def catG (l1 l2 : Nat) : Bool := decide (0 < l1 + l2) && decide (l1 + l2 ≤ 100000)
theorem cat_eq (e : TypeId) (he : bytesOf Try.prog e ≤ 100) (l1 : Nat) (c1 : List PV) (l2 : Nat) (c2 : List PV) (hg : catG l1 l2 = true) :
    catR e l1 c1 l2 c2 (IntKind.i64.wrap (0 + (l1 : Int))) (IntKind.i64.wrap (IntKind.i64.wrap (0 + (l1 : Int)) + (l2 : Int))) = some (.sl (some false) 1 (l1 + l2) (c1 ++ c2)) := by
  unfold catG at hg
  simp only [Bool.and_eq_true, decide_eq_true_eq] at hg
  have w1 : IntKind.i64.wrap (0 + (l1 : Int)) = (l1 : Int) := by rw [wrapI_of (by omega) (by omega)]; omega
  have w2 : IntKind.i64.wrap ((l1 : Int) + (l2 : Int)) = (l1 : Int) + (l2 : Int) := wrapI_of (by omega) (by omega)
  have m1 : (0 + l1) * bytesOf Try.prog e ≤ 100000 * 100 := Nat.mul_le_mul (by omega) he
  have m2 : (0 + l1 + l2) * bytesOf Try.prog e ≤ 100000 * 100 := Nat.mul_le_mul (by omega) he
  rw [w1, w2]
  unfold catR
  rw [cond_f (decide_eq_false (by omega)), cond_f (decide_eq_false (by omega)), cond_t (by rw [decide_eq_true (by omega), decide_eq_true (by omega)]; rfl), cond_t (by rw [decide_eq_true (by omega), decide_eq_true (by unfold roomB; omega)]; rfl), cond_t (by rw [decide_eq_true (by omega), decide_eq_true (by unfold roomB; omega)]; rfl), Nat.zero_add, List.nil_append]
theorem cat_raw_s (nz n1 : Option Bool) (l1 : Nat) (c1 : List PV) (n2 : Option Bool) (l2 : Nat) (c2 : List PV) :
    prun (en [(116, p_grow_s)]) hCat 3 false Try.f109 [.sl nz 1 2 [.sl n1 1 l1 c1, .sl n2 1 l2 c2]] = catR 9 l1 c1 l2 c2 (IntKind.i64.wrap (0 + (l1 : Int))) (IntKind.i64.wrap (IntKind.i64.wrap (0 + (l1 : Int)) + (l2 : Int))) := by kernel_rfl
def p_cat_s : PFn := ⟨fun xs k => match xs with | [.sl nz 1 2 [.sl n1 1 l1 c1, .sl n2 1 l2 c2]] => bif catG l1 l2 then k (.sl (some false) 1 (l1 + l2) (c1 ++ c2)) else none | _ => none, false⟩
theorem ok_cat_s : FOK NGt Wt 109 p_cat_s := by
  refine fok wokt (allOK_cons ok_grow_s allOK_nil) (h := hCat) Try.func109 rfl (by decide) ?_ ?_
  · intro R xs k
    simp only [p_cat_s]
    split
    · exact cond_nat
    · rfl
  · intro xs r h
    simp only [p_cat_s] at h
    split at h
    · rename_i nz n1 l1 c1 n2 l2 c2
      rcases hb : catG l1 l2 with _ | _ <;> rw [hb] at h
      · cases h
      · exact ⟨3, ((cat_raw_s nz n1 l1 c1 n2 l2 c2).trans (cat_eq _ (show bytesOf Try.prog _ ≤ 100 from Nat.le_of_ble_eq_true (by kernel_rfl)) l1 c1 l2 c2 hb)).trans h⟩
    · cases h
theorem cat_raw_i (nz n1 : Option Bool) (l1 : Nat) (c1 : List PV) (n2 : Option Bool) (l2 : Nat) (c2 : List PV) :
    prun (en [(117, p_grow_i)]) hCat 3 false Try.f110 [.sl nz 1 2 [.sl n1 1 l1 c1, .sl n2 1 l2 c2]] = catR 3 l1 c1 l2 c2 (IntKind.i64.wrap (0 + (l1 : Int))) (IntKind.i64.wrap (IntKind.i64.wrap (0 + (l1 : Int)) + (l2 : Int))) := by kernel_rfl
def p_cat_i : PFn := ⟨fun xs k => match xs with | [.sl nz 1 2 [.sl n1 1 l1 c1, .sl n2 1 l2 c2]] => bif catG l1 l2 then k (.sl (some false) 1 (l1 + l2) (c1 ++ c2)) else none | _ => none, false⟩
theorem ok_cat_i : FOK NGt Wt 110 p_cat_i := by
  refine fok wokt (allOK_cons ok_grow_i allOK_nil) (h := hCat) Try.func110 rfl (by decide) ?_ ?_
  · intro R xs k
    simp only [p_cat_i]
    split
    · exact cond_nat
    · rfl
  · intro xs r h
    simp only [p_cat_i] at h
    split at h
    · rename_i nz n1 l1 c1 n2 l2 c2
      rcases hb : catG l1 l2 with _ | _ <;> rw [hb] at h
      · cases h
      · exact ⟨3, ((cat_raw_i nz n1 l1 c1 n2 l2 c2).trans (cat_eq _ (show bytesOf Try.prog _ ≤ 100 from Nat.le_of_ble_eq_true (by kernel_rfl)) l1 c1 l2 c2 hb)).trans h⟩
    · cases h
theorem cat_raw_n (nz n1 : Option Bool) (l1 : Nat) (c1 : List PV) (n2 : Option Bool) (l2 : Nat) (c2 : List PV) :
    prun (en [(118, p_grow_n)]) hCat 3 false Try.f111 [.sl nz 1 2 [.sl n1 1 l1 c1, .sl n2 1 l2 c2]] = catR 93 l1 c1 l2 c2 (IntKind.i64.wrap (0 + (l1 : Int))) (IntKind.i64.wrap (IntKind.i64.wrap (0 + (l1 : Int)) + (l2 : Int))) := by kernel_rfl
def p_cat_n : PFn := ⟨fun xs k => match xs with | [.sl nz 1 2 [.sl n1 1 l1 c1, .sl n2 1 l2 c2]] => bif catG l1 l2 then k (.sl (some false) 1 (l1 + l2) (c1 ++ c2)) else none | _ => none, false⟩
theorem ok_cat_n : FOK NGt Wt 111 p_cat_n := by
  refine fok wokt (allOK_cons ok_grow_n allOK_nil) (h := hCat) Try.func111 rfl (by decide) ?_ ?_
  · intro R xs k
    simp only [p_cat_n]
    split
    · exact cond_nat
    · rfl
  · intro xs r h
    simp only [p_cat_n] at h
    split at h
    · rename_i nz n1 l1 c1 n2 l2 c2
      rcases hb : catG l1 l2 with _ | _ <;> rw [hb] at h
      · cases h
      · exact ⟨3, ((cat_raw_n nz n1 l1 c1 n2 l2 c2).trans (cat_eq _ (show bytesOf Try.prog _ ≤ 100 from Nat.le_of_ble_eq_true (by kernel_rfl)) l1 c1 l2 c2 hb)).trans h⟩
    · cases h
end Go.Proofs.Ytmacjkiamejcnaa
