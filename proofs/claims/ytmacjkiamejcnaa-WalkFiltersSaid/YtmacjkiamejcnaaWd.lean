/-
  TreePlays: what it computes.
-/
import Derived.Test.YtmacjkiamejcnaaWc
import Derived.Test.YtmacjkiamejcnaaWb
set_option linter.unusedVariables false
set_option linter.unusedSimpArgs false
set_option maxRecDepth 100000
namespace Go.Proofs.Ytmacjkiamejcnaa
open Go.RowKit
abbrev OpC := Int × Ky × Int
def ocs (p : OpC) : List PV := [.int .i64 p.1, .str p.2.1, .int .i64 p.2.2]
theorem ocs_drop : ∀ (l : List OpC) (i : Nat), (l.flatMap ocs).drop (i * 3) = (l.drop i).flatMap ocs
  | l, 0 => by simp
  | [], i + 1 => by simp
  | p :: l, i + 1 => by
    rw [List.flatMap_cons, show (i + 1) * 3 = (ocs p).length + i * 3 by simp [ocs]; omega, List.drop_length_add_append, ocs_drop l i, List.drop_succ_cons]
theorem ocs_at {l : List OpC} {i : Nat} {p : OpC} (h : l[i]? = some p) : ((l.flatMap ocs).drop (i * 3)).take 3 = ocs p := by
  rw [ocs_drop, drop_cons_some h, List.flatMap_cons]
  rfl
theorem opAt_eq {S : Type} {l : List OpC} {i : Nat} {p : OpC} (h : l[i]? = some p) (k : Int → Ky → Int → Option S) : opAt l.length (l.flatMap ocs) (i : Int) k = k p.1 p.2.1 p.2.2 := by
  have hi := (List.getElem?_eq_some_iff.1 h).1
  unfold opAt
  rw [cond_t (by rw [decide_eq_true (by omega), decide_eq_true (by omega)]; rfl), Int.toNat_natCast, ocs_at h]
  rfl
theorem strAt0_eq {S : Type} {l : List OpC} {p : OpC} (h : l[0]? = some p) (k : Ky → Option S) : strAt0 l.length (l.flatMap ocs) k = k p.2.1 := by
  have hi := (List.getElem?_eq_some_iff.1 h).1
  unfold strAt0
  rw [cond_t (by rw [decide_eq_true (by omega), decide_eq_true (by omega)]; rfl), show (0 : Int).toNat = 0 from rfl, ocs_at h]
  rfl
theorem getD_vok {x : PV} {a : List (Ky × PV)} (hx : RootIs x a) (k : Ky) : .int .i64 (valP ((getK k a).getD (.int .i64 0))) = (getK k a).getD (.int .i64 0) := by
  unfold getK
  rcases hf : a.find? (fun p => p.1 == k) with _ | p
  · rw [hf]; rfl
  · rw [hf]; exact valP_eq (hx.vok p (List.mem_of_find?_eq_some hf))
theorem rank_from (k : Ky) : ∀ (l : List (Ky × PV)), rankK k l + (fromK k l).length = l.length
  | [] => rfl
  | p :: l => by
    have ih := rank_from k l
    unfold rankK fromK at ih ⊢
    rw [List.filter_cons, List.filter_cons]
    cases h : Op.bytesLess p.1 k
    · simp; omega
    · simp; omega
theorem from_vok {x : PV} {a : List (Ky × PV)} (hx : RootIs x a) (k : Ky) : ∀ p ∈ fromK k a, vok p.2 = true := fun p hp => hx.vok p (List.mem_filter.1 hp).1
theorem back_vok {x : PV} {a : List (Ky × PV)} (hx : RootIs x a) (k : Ky) : ∀ p ∈ backK k a, vok p.2 = true := fun p hp => hx.vok p (List.mem_filter.1 (List.mem_reverse.1 hp)).1
theorem from_len (k : Ky) (a : List (Ky × PV)) : (fromK k a).length ≤ a.length := List.length_filter_le _ _
theorem back_len (k : Ky) (a : List (Ky × PV)) : (backK k a).length ≤ a.length := by unfold backK; rw [List.length_reverse]; exact List.length_filter_le _ _
theorem rfrom_law {R : Type} {x : PV} {a : List (Ky × PV)} (hx : RootIs x a) (hl : a.length ≤ 100000) (fl : Option Bool) (k : Ky) (K : PV → Option R) :
    p_rfrom.F [.sl fl 2 a.length (pcs a), .str k] K = K (pSl (fromK k a)) := by
  simp only [p_rfrom]
  rw [gP_of hl hx.vok, Option.bind_some]
  rfl
theorem rback_law {R : Type} {x : PV} {a : List (Ky × PV)} (hx : RootIs x a) (hl : a.length ≤ 100000) (fl : Option Bool) (k : Ky) (K : PV → Option R) :
    p_rback.F [.sl fl 2 a.length (pcs a), .str k] K = K (pSl (backK k a)) := by
  simp only [p_rback]
  rw [gP_of hl hx.vok, Option.bind_some]
  rfl
theorem rget_law {R : Type} {x : PV} {a : List (Ky × PV)} (hx : RootIs x a) (hl : a.length ≤ 100000) (fl : Option Bool) (k : Ky) (K : PV → Option R) :
    p_rget.F [.sl fl 2 a.length (pcs a), .str k] K = K (.tuple [.int .i64 (valP ((getK k a).getD (.int .i64 0))), .bool (hasK k a)]) := by
  simp only [p_rget]
  rw [gP_of hl hx.vok, Option.bind_some]
theorem same_law {R : Type} {a : List (Ky × PV)} (hl : a.length ≤ 100000) (hv : ∀ p ∈ a, vok p.2 = true) (f g : Option Bool) (K : PV → Option R) : p_same.F [.sl f 2 a.length (pcs a), .sl g 2 a.length (pcs a)] K = K (.bool true) := by
  simp only [p_same]
  rw [gP_of hl hv, Option.bind_some, Option.bind_some, sameK_self]
theorem pl_mid {x y : PV} {a b : List (Ky × PV)} (hx : RootIs x a) (hy : RootIs y b) (ha : a.length ≤ 200) (hb : b.length ≤ 200) (k : Ky) (f : Option Bool) (K : Option PV) :
    plM x y k f a.length (pcs a) b.length K = K := by
  unfold plM
  rw [get_law hx (by omega)]
  rw [← getD_vok hx]
  simp only [onG]
  rw [rget_law hx (by omega)]
  simp only
  rw [show ((valP ((getK k a).getD (PV.int .i64 0)) == valP ((getK k a).getD (PV.int .i64 0))) = true) by simp, show ((hasK k a == hasK k a) = true) by simp, cond_t (by rfl), len_law hx]
  simp only [onI]
  rw [show (((a.length : Int) == (a.length : Int)) = true) by simp, cond_t (by rfl), len_law hy]
  simp only
  rw [show (((b.length : Int) == (b.length : Int)) = true) by simp, cond_t (by rfl), rank_law hx (by omega)]
  simp only
  rw [rfrom_law hx (by omega)]
  simp only [onL, pSl]
  have := rank_from k a
  rw [wrapI_of (by omega) (by omega), show (((rankK k a : Nat) : Int) == (a.length : Int) - ((fromK k a).length : Int)) = true by simp; omega]
  rfl
theorem del_flag {x : PV} {a : List (Ky × PV)} (hx : RootIs x a) (k : Ky) : decide ((delK k a).length < a.length) = hasK k a := by
  have h := del_len (k := k) hx.srt
  rcases hh : hasK k a with _ | _
  · rw [hh] at h
    simp at h
    exact decide_eq_false (by omega)
  · have : 1 ≤ a.length := by
      cases a with
      | nil => simp [hasK] at hh
      | cons _ _ => simp
    rw [hh] at h
    simp at h
    exact decide_eq_true (by omega)
theorem pl_loop (ops : List OpC) (fu : Nat) (n0 : Option Bool) : ∀ (m i n : Nat) (x y : PV) (a b : List (Ky × PV)), i + m = ops.length → m < n → i ≤ 150 → RootIs x a → RootIs y b → a.length ≤ i → b.length ≤ i →
    ∃ x' y' a' b', RootIs x' a' ∧ RootIs y' b' ∧ a'.length ≤ 150 ∧ b'.length ≤ 150 ∧
      plLoop fu n (frPl x y n0 ops.length (ops.flatMap ocs) (some a.isEmpty) a.length (pcs a) (some b.isEmpty) b.length (pcs b) (ops.length : Int) (i : Int)) =
        plTail fu (frPlT x' y' n0 ops.length (ops.flatMap ocs) (some a'.isEmpty) a'.length (pcs a') (some b'.isEmpty) b'.length (pcs b'))
  | m, i, 0, x, y, a, b, hi, hn, h150, hx, hy, ha, hb => by omega
  | 0, i, n + 1, x, y, a, b, hi, hn, h150, hx, hy, ha, hb => by
    refine ⟨x, y, a, b, hx, hy, by omega, by omega, ?_⟩
    unfold plLoop
    rw [loopF_succ, pl_step fu hx.isR hy.isR]
    unfold plR
    rw [cond_f (decide_eq_false (by omega))]
  | m + 1, i, n + 1, x, y, a, b, hi, hn, h150, hx, hy, ha, hb => by
    have hp : ops[i]? = some ops[i] := List.getElem?_eq_getElem (by omega)
    generalize ops[i] = p at hp
    have hstep := fun K => pl_step (K := K) fu hx.isR hy.isR n0 ops.length (ops.flatMap ocs) (some a.isEmpty) a.length (pcs a) (some b.isEmpty) b.length (pcs b) (ops.length : Int) (i : Int)
    unfold plLoop
    rw [loopF_succ, hstep]
    clear hstep
    unfold plR
    rw [cond_t (decide_eq_true (by omega)), opAt_eq hp]
    by_cases h1 : 150 ≤ i
    · refine ⟨x, y, a, b, hx, hy, by omega, by omega, ?_⟩
      rw [show decide ((150 : Int) ≤ (i : Int)) = true from decide_eq_true (by omega)]
      rfl
    rw [show decide ((150 : Int) ≤ (i : Int)) = false from decide_eq_false (by omega), cond_false]
    by_cases h2 : 100 < p.2.1.length
    · refine ⟨x, y, a, b, hx, hy, by omega, by omega, ?_⟩
      rw [cond_t (decide_eq_true (by omega))]
    rw [cond_f (decide_eq_false (by omega))]
    have hw : IntKind.i64.wrap ((i : Int) + 1) = ((i + 1 : Nat) : Int) := by rw [wrapI_of (by omega) (by omega)]; rfl
    have next := fun x y a b hx hy ha hb => pl_loop ops fu n0 m (i + 1) n x y a b (by omega) (by omega) (by omega) hx hy ha hb
    unfold plLoop at next
    rcases (IntKind.u64.wrap p.1).tmod 5 == 0 with _ | _
    rotate_left
    · obtain ⟨x', hx', ex⟩ := put_law hx (by omega) p.2.1 p.2.2
      have la : (insK p.2.1 (.int .i64 p.2.2) a).length ≤ i + 1 := by rw [ins_len hx.srt]; split <;> omega
      obtain ⟨x2, y2, a2, b2, r1, r2, r3, r4, r5⟩ := next x' y _ b hx' hy la (by omega)
      refine ⟨x2, y2, a2, b2, r1, r2, r3, r4, ?_⟩
      rw [cond_true, rput_law hx (by omega)]
      simp only [onP2, pSl]
      rw [ex]
      simp only [on1, onB]
      rw [show ((!hasK p.2.1 a) == (!hasK p.2.1 a)) = true by simp, cond_f (by rfl), pl_rest fu hx'.isR hy.isR, pl_mid hx' hy (by omega) (by omega), hw]
      exact r5
    rw [cond_false]
    rcases (IntKind.u64.wrap p.1).tmod 5 == 1 with _ | _
    rotate_left
    · obtain ⟨x', hx', ex⟩ := del_law hx (by omega) p.2.1
      have la : (delK p.2.1 a).length ≤ i + 1 := by rw [del_len hx.srt]; split <;> omega
      obtain ⟨x2, y2, a2, b2, r1, r2, r3, r4, r5⟩ := next x' y _ b hx' hy la (by omega)
      refine ⟨x2, y2, a2, b2, r1, r2, r3, r4, ?_⟩
      rw [cond_true, rdel_law hx (by omega), del_flag hx]
      simp only [onP2, pSl]
      rw [ex]
      simp only [on1, onB]
      rw [show (hasK p.2.1 a == hasK p.2.1 a) = true by simp, cond_f (by rfl), pl_rest fu hx'.isR hy.isR, pl_mid hx' hy (by omega) (by omega), hw]
      exact r5
    rw [cond_false]
    rcases (IntKind.u64.wrap p.1).tmod 5 == 3 with _ | _
    rotate_left
    · obtain ⟨x2, y2, a2, b2, r1, r2, r3, r4, r5⟩ := next x x a a hx hx (by omega) (by omega)
      refine ⟨x2, y2, a2, b2, r1, r2, r3, r4, ?_⟩
      rw [cond_true]
      show plRest fu _ (frPlM _ _ _ _ _ _ _ _ _ _ _ _ _ _ _ _) = _
      rw [pl_rest fu hx.isR hx.isR, pl_mid hx hx (by omega) (by omega), hw]
      exact r5
    rw [cond_false]
    rcases (IntKind.u64.wrap p.1).tmod 5 == 4 with _ | _
    rotate_left
    · obtain ⟨x2, y2, a2, b2, r1, r2, r3, r4, r5⟩ := next y x b a hy hx (by omega) (by omega)
      refine ⟨x2, y2, a2, b2, r1, r2, r3, r4, ?_⟩
      rw [cond_true]
      show plRest fu _ (frPlM _ _ _ _ _ _ _ _ _ _ _ _ _ _ _ _) = _
      rw [pl_rest fu hy.isR hx.isR, pl_mid hy hx (by omega) (by omega), hw]
      exact r5
    obtain ⟨x2, y2, a2, b2, r1, r2, r3, r4, r5⟩ := next x y a b hx hy (by omega) (by omega)
    refine ⟨x2, y2, a2, b2, r1, r2, r3, r4, ?_⟩
    rw [cond_false]
    show plRest fu _ (frPlM _ _ _ _ _ _ _ _ _ _ _ _ _ _ _ _) = _
    rw [pl_rest fu hx.isR hy.isR, pl_mid hx hy (by omega) (by omega), hw]
    exact r5
theorem pl_end {x y : PV} {a b : List (Ky × PV)} (hx : RootIs x a) (hy : RootIs y b) (ha : a.length ≤ 150) (hb : b.length ≤ 150) (f g : Option Bool) (q : Ky) : plEnd x y f a.length (pcs a) g b.length (pcs b) q = some (.bool true) := by
  unfold plEnd clF
  have f1 := from_len q a
  have f2 := back_len q b
  have f5 := back_len [255, 255] a
  rw [takenF_law hx (by omega) q 1000 (by omega), List.take_of_length_le (by show _ ≤ 1000; omega)]
  try simp only []
  rw [rfrom_law hx (by omega)]
  simp only [pSl]
  rw [same_law (by omega) (from_vok hx q)]
  simp only [onB]
  rw [cond_t (by rfl), takenB_law hy (by omega) q 1000 (by omega), List.take_of_length_le (by show _ ≤ 1000; omega)]
  try simp only []
  rw [rback_law hy (by omega)]
  simp only [pSl]
  rw [same_law (by omega) (back_vok hy q)]
  try simp only []
  rw [cond_f (by rfl), takenF_law hx (by omega) [] 1000 (by omega), from_nil, List.take_of_length_le (by show _ ≤ 1000; omega)]
  simp only [pSl]
  rw [same_law (by omega) hx.vok]
  try simp only []
  rw [cond_true, takenF_law hy (by omega) [] 1000 (by omega), from_nil, List.take_of_length_le (by show _ ≤ 1000; omega)]
  simp only [pSl]
  rw [same_law (by omega) hy.vok]
  try simp only []
  rw [cond_true, takenB_law hx (by omega) [255, 255] 1000 (by omega), List.take_of_length_le (by show _ ≤ 1000; omega)]
  try simp only []
  rw [rback_law hx (by omega)]
  simp only [pSl]
  rw [same_law (by omega) (back_vok hx _)]
theorem pl_true (ops : List OpC) (n0 : Option Bool) : prun enL hPl (ops.length + 1) false fPl [.sl n0 3 ops.length (ops.flatMap ocs)] = some (.bool true) := by
  rw [pl_raw]
  obtain ⟨x, y, a, b, h1, h2, h3, h4, h5⟩ := pl_loop ops (ops.length + 1) n0 ops.length 0 (ops.length + 1) .nilptr .nilptr [] [] (by omega) (by omega) (by omega) (.inl ⟨rfl, rfl⟩) (.inl ⟨rfl, rfl⟩) (by simp) (by simp)
  refine h5.trans ?_
  rw [pl_tail _ h1.isR h2.isR]
  rcases hl : ops with _ | ⟨p, l⟩
  · rw [cond_f (by rfl)]
    exact pl_end h1 h2 h3 h4 _ _ _
  · rw [← hl]
    have hp : ops[0]? = some p := by rw [hl]; rfl
    rw [cond_t (decide_eq_true (by rw [hl]; simp)), strAt0_eq hp, strAt0_eq hp, pl_end h1 h2 h3 h4, pl_end h1 h2 h3 h4]
    cases decide (((p.2.1.length : Nat) : Int) < 100) <;> rfl
end Go.Proofs.Ytmacjkiamejcnaa
