/-
  Contracts of (*tree.node).kid and of slices.BinarySearch.
-/
import Derived.Test.YtmacjkiamejcnaaSo
set_option linter.unusedVariables false
set_option linter.unusedSimpArgs false
set_option maxRecDepth 1000000
namespace Go.Proofs.Ytmacjkiamejcnaa
open Go.RowKit Go.Lib
def strOf : PV → List UInt8
  | .str s => s
  | _ => []
def isStr : PV → Bool
  | .str _ => true
  | _ => false
def strAt (keys : List PV) (t : Nat) : List UInt8 := strOf (keys.getD t .undef)
/-- the place of a key: how many the halving leaves ahead of it -/
def placeI (keys : List PV) (x : List UInt8) : Nat := Lib.bsGo (fun t => Op.bytesLess (strAt keys t) x) keys.length 0 keys.length
/-- the kid's number, plus one -/
def kidI (keys : List PV) (x : List UInt8) : Nat := Lib.bsGo (fun t => Op.bytesLess (strAt keys t) x || strAt keys t == x) keys.length 0 keys.length
theorem str_cells {M : Mem} {keys : List PV} {cs : List Value} (hr : RelL M keys cs) (hs : keys.all isStr = true) {t : Nat} (ht : t < keys.length) : cs[t]? = some (.string ⟨(strAt keys t).toArray⟩) := by
  obtain ⟨u, h1, _, h3⟩ := hr.get (List.getElem?_eq_getElem ht)
  rw [h1]
  have := List.all_eq_true.1 hs _ (List.getElem_mem ht)
  unfold strAt
  rw [List.getD_eq_getElem?_getD, List.getElem?_eq_getElem ht, Option.getD_some]
  revert h3 this
  cases keys[t] <;> intro h3 h4 <;> simp only [isStr, RelD, strOf, Bool.false_eq_true] at h3 h4 ⊢
  rw [h3]
theorem tl_mk (s : List UInt8) : (ByteArray.mk s.toArray).toList = s := by rw [Lib.toList_data]
theorem below_drewN (w : World) (q B : Nat) : Below B w (w.drewN q) := ⟨rfl, rfl, rfl, Nat.le_refl _, fun _ _ => rfl⟩
def p_bs : PFn := ⟨fun xs k => match xs with | [.sl _ 1 n keys, .str x] => bif keys.all isStr && (decide (keys.length = n) && (decide (0 < n) && decide (n ≤ 1000000))) then k (.tuple [.int .i64 (placeI keys x : Nat), .bool (decide (placeI keys x < n) && strAt keys (placeI keys x) == x)]) else none | _ => none, false⟩
theorem ok_bs {NG : Nat} {W : World → Prop} : FOK NG W 91 p_bs := by
  refine fok_calls Try.func91 (by kernel_rfl) (by decide) ?_ rfl ?_
  · intro R xs k
    simp only [p_bs]
    split
    · rename_i n keys x
      rcases (keys.all isStr && (decide (keys.length = n) && (decide (0 < n) && decide (n ≤ 1000000)))) with _ | _ <;> rfl
    · rfl
  · intro xs r M vs hW h hr
    simp only [p_bs] at h
    split at h
    · rename_i nl n keys x
      rcases hb : (keys.all isStr && (decide (keys.length = n) && (decide (0 < n) && decide (n ≤ 1000000)))) with _ | _ <;> rw [hb] at h
      · cases h
      simp only [cond_true, Option.some.injEq] at h
      subst h
      simp only [Bool.and_eq_true, decide_eq_true_eq] at hb
      obtain ⟨b1, rfl, b3, b4⟩ := hb
      obtain ⟨v, u, rfl, g1, g2⟩ := relT2 hr
      simp only [RelD] at g1 g2
      subst g2
      obtain ⟨A, c, cs, rfl, j1, j2, j3, j4, j5, j6, j7⟩ := g1
      have hl := j6.length
      obtain rfl | ⟨b, o, rfl, hat⟩ := j7
      · simp only [List.length_nil] at hl; omega
      have key := bsearch_s b o keys.length c (fun t => ⟨(strAt keys t).toArray⟩) ⟨x.toArray⟩ M.w (by omega) (fun j hj => (hat j _ (str_cells j6 b1 hj)).1)
      simp only [tl_mk] at key
      refine key.mono ?_
      rintro e w' ⟨rfl, q, rfl⟩
      refine ⟨_, rfl, below_drewN _ _ _, fun U' hm => ?_⟩
      simp only [RelD, RelT]
      refine ⟨[_, _], rfl, _, _, rfl, rfl, _, _, rfl, ?_, rfl⟩
      show Value.bool _ = Value.bool _
      congr 1
      show decide (placeI keys x < keys.length ∧ (⟨(strAt keys (placeI keys x)).toArray⟩ : ByteArray) = ⟨x.toArray⟩) = _
      rw [Bool.eq_iff_iff]
      simp
    · cases h
def p_kid : PFn := ⟨fun xs k => match xs with | [.eptr (.sl _ 1 n keys :: _), .str x] => bif keys.all isStr && (decide (keys.length = n) && (decide (0 < n) && decide (n ≤ 1000000))) then k (.int .i64 ((kidI keys x - 1 : Nat) : Int)) else none | _ => none, false⟩
theorem ok_kid {NG : Nat} {W : World → Prop} : FOK NG W 74 p_kid := by
  refine fok_calls Try.func74 (by kernel_rfl) (by decide) ?_ rfl ?_
  · intro R xs k
    simp only [p_kid]
    split
    · rename_i n keys _ x
      rcases (keys.all isStr && (decide (keys.length = n) && (decide (0 < n) && decide (n ≤ 1000000)))) with _ | _ <;> rfl
    · rfl
  · intro xs r M vs hW h hr
    simp only [p_kid] at h
    split at h
    · rename_i nl n keys rest x
      rcases hb : (keys.all isStr && (decide (keys.length = n) && (decide (0 < n) && decide (n ≤ 1000000)))) with _ | _ <;> rw [hb] at h
      · cases h
      simp only [cond_true, Option.some.injEq] at h
      subst h
      simp only [Bool.and_eq_true, decide_eq_true_eq] at hb
      obtain ⟨b1, rfl, b3, b4⟩ := hb
      obtain ⟨v, u, rfl, g1, g2⟩ := relT2 hr
      simp only [RelD] at g1 g2
      subst g2
      obtain ⟨nb, no, ws, rfl, g3, hnode⟩ := g1
      simp only [RelL, RelD] at g3
      obtain ⟨u0, us, rfl, _, ⟨A, c, cs, rfl, j1, j2, j3, j4, j5, j6, j7⟩, _⟩ := g3
      have hl := j6.length
      obtain rfl | ⟨b, o, rfl, hat⟩ := j7
      · simp only [List.length_nil] at hl; omega
      have h0 := (hnode 0 _ rfl).1
      have key := kid_c nb no b o keys.length c (fun t => ⟨(strAt keys t).toArray⟩) ⟨x.toArray⟩ M.w (by omega) h0 (fun j hj => (hat j _ (str_cells j6 b1 hj)).1) (kidI keys x) (by simp only [tl_mk]; rfl)
      refine key.mono ?_
      rintro e w' ⟨rfl, q, rfl⟩
      refine ⟨_, rfl, ((((Below.refl _ M.w).alloc (Nat.le_refl _) _).alloc (by show _ ≤ (M.w.heap.push _).size; rw [Array.size_push]; omega) _).trans (below_drewN _ _ _)), fun U' hm => ?_⟩
      simp only [RelD]
    · cases h
end Go.Proofs.Ytmacjkiamejcnaa
