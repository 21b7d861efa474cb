/-
  slices.Clone: a slice of its own (walked; printed by wip/gen/ra.py).
-/
import Derived.Test.YtmacjkiamejcnaaPGw
import Derived.Laws.AppendOwn
import Derived.Deep.LoopGhost
import Derived.Lib.SliceRun
import Derived.Shelf.RegionOpenPlain
set_option linter.unusedVariables false
set_option linter.unusedSimpArgs false
set_option maxRecDepth 100000
namespace Go.Proofs.Ytmacjkiamejcnaa
open Go.RowKit Go.Lib

/-- a row of its own, as slices that are written in place want it -/
theorem ownsRow_bsl {w : World} {base n : Nat} {e : TypeId} {v : Value} {xs : List Value} (h : w.ownsRow base e 1 v n xs) (h0 : v ≠ .slice none 0 0) : ∃ b c, v = .slice (some ⟨b, 0, none⟩) n c ∧ base ≤ b ∧ RowP w b e xs ∧ n ≤ c ∧ c ≤ maxLen ∧ Sized w b (c * 1) := by
  obtain ⟨hl, ⟨rfl, _⟩ | ⟨g, cap, cur, rfl, h1, h2, h3, h4, h5, h6⟩⟩ := h
  · exact (h0 rfl).elim
  · refine ⟨g, cap, rfl, h1, ⟨cur.toList.drop (n * 1), ?_⟩, h3, h4, cur, e, h2, by omega⟩
    rw [h2, ← h6, List.take_append_drop]

set_option maxHeartbeats 4000000 in
theorem clone_s (b off n c : Nat) (cs : List Value) (w : World) (h0 : 0 < n) (hn : n ≤ 1000000) (hl : cs.length = n) (h1 : ∀ u ∈ cs, u.oneCell' = true) (hc : ∀ j u, cs[j]? = some u → w.cell? ⟨b, off + j, none⟩ = some u) :
    Calls Try.prog 80 #[.slice (some ⟨b, off, none⟩) n c] w fun e w' => ∃ v', e = .returned v' ∧ w'.ownsRow w.heap.size 9 1 v' n cs ∧ v' ≠ .slice none 0 0 ∧ Below w.heap.size w w' := by
  have q22 : ∀ (w : World) (a : Option Addr) (n c n' c' : Nat), (binOp .eql 22 (.slice a n c) (.slice none n' c')).run Try.prog w = .ok (.bool a.isNone) w := fun w a n c n' c' => Lib.run_eql_slice_nil w _ _ a n c n' c' Try.underlying22
  obtain ⟨i0, hi, hz1, hz2, z, hz, hzs⟩ : ∃ i0, Try.prog.info? 9 = some i0 ∧ i0.size = 1 ∧ i0.bytes ≤ 100 ∧ ∃ z, i0.zero = some z ∧ z.cells.size = 1 := ⟨Try.t9, by kernel_rfl, by kernel_rfl, by decide, _, rfl, by decide⟩
  have hbig : n * i0.bytes ≤ 140737488355328 := Nat.le_trans (Nat.mul_le_mul hn hz2) (by decide)
  have A : Aside (∀ j u, cs[j]? = some u → w.cell? ⟨b, off + j, none⟩ = some u) := hc
  clear hc
  go_enter Try.func80, Try.ntmps80
  go_wp2_with (at_builtin; refine wpList_append_own _ rfl _ _ 22 rfl w.heap.size 9 i0 z 1 i0.bytes Try.underlying22 hi hz hz1 rfl hzs (by decide) _ _ _ rfl (World.ownsRow_made w #[] 0 (Nat.le_refl _) (Nat.zero_le _) rfl) ⟨b, off, none⟩ n c cs rfl ?qc1 ?qc2 ?qc3 ?qc4 ?qc5 ?qc6 ?_)
  case qc1 => omega
  case qc2 =>
    intro j u hj
    rw [Addr.add_lit]
    exact Lib.cell?_alloc_some _ (A.out j u hj)
  case qc3 => exact h1
  case qc4 => unfold maxLen; omega
  case qc5 => simpa using hbig
  case qc6 => simp
  intro v' w1 hown hgrow hnil
  go_wp2
  go_ret
  refine ⟨v', rfl, by simpa using hown, ?_, ?_⟩
  · exact hnil
  · exact ((Below.refl _ w).alloc (Nat.le_refl _) _).grown hgrow (by simp) (by intro k hk; simp [Value.ownBlock] at hk; omega)
def p_clone_s : NFn := ⟨fun xs kk => match xs with | [.sl _ 1 n cells] => bif decide (0 < n) && decide (n ≤ 1000000) then kk 1 n cells else none | _ => none⟩
theorem nok_clone_s {NG : Nat} {W : World → Prop} : NOK NG W 80 p_clone_s where
  nat := by
    intro R xs kk
    simp only [p_clone_s]
    split
    · rcases (decide (0 < _) && decide (_ ≤ 1000000)) with _ | _ <;> rfl
    · rfl
  call := by
    intro M xs vs sz n cells hW hng hG hr h
    simp only [p_clone_s] at h
    split at h
    · rename_i nl n' cells'
      rcases hb : (decide (0 < n') && decide (n' ≤ 1000000)) with _ | _ <;> rw [hb] at h
      · cases h
      simp only [cond_true, Option.some.injEq, Prod.mk.injEq] at h
      obtain ⟨rfl, rfl, rfl⟩ := h
      simp only [Bool.and_eq_true, decide_eq_true_eq] at hb
      obtain ⟨v, rfl, hv⟩ := relT1 hr
      simp only [RelD] at hv
      obtain ⟨A, c, cs, rfl, g1, g2, g3, g4, g5, g6, g7⟩ := hv
      have hcl : cs.length = n' := by rw [← g6.length, g5]; omega
      obtain rfl | ⟨b, o, rfl, hat⟩ := g7
      · simp at hcl; omega
      refine .inr ⟨?_, (clone_s b o n' c cs M.w hb.1 hb.2 hcl g6.one fun j u hj => (hat j u hj).1).mono ?_⟩
      · show (callFunc _ _).run Try.prog M.w = _
        simp [callFunc, Try.func80]
        rw [if_neg (by decide), if_neg (by decide)]
      · rintro e w' ⟨v', rfl, k1, k2, k3⟩
        obtain ⟨b', c', rfl, q1, q2, q3, q4, q5⟩ := ownsRow_bsl k1 k2
        have hm : Move M ⟨w', fun x => if x < M.w.heap.size then M.U x else 0, M.y⟩ none := Move.mk0 k3 fun x hx => by simp [hx]
        exact ⟨_, rfl, _, hm, b', c', _, cs, rfl, q1, q2, g6.mono hm.le, by simp; omega, q3, q4, q5⟩
    · cases h

set_option maxHeartbeats 4000000 in
theorem clone_i (b off n c : Nat) (cs : List Value) (w : World) (h0 : 0 < n) (hn : n ≤ 1000000) (hl : cs.length = n) (h1 : ∀ u ∈ cs, u.oneCell' = true) (hc : ∀ j u, cs[j]? = some u → w.cell? ⟨b, off + j, none⟩ = some u) :
    Calls Try.prog 81 #[.slice (some ⟨b, off, none⟩) n c] w fun e w' => ∃ v', e = .returned v' ∧ w'.ownsRow w.heap.size 3 1 v' n cs ∧ v' ≠ .slice none 0 0 ∧ Below w.heap.size w w' := by
  have q22 : ∀ (w : World) (a : Option Addr) (n c n' c' : Nat), (binOp .eql 50 (.slice a n c) (.slice none n' c')).run Try.prog w = .ok (.bool a.isNone) w := fun w a n c n' c' => Lib.run_eql_slice_nil w _ _ a n c n' c' Try.underlying50
  obtain ⟨i0, hi, hz1, hz2, z, hz, hzs⟩ : ∃ i0, Try.prog.info? 3 = some i0 ∧ i0.size = 1 ∧ i0.bytes ≤ 100 ∧ ∃ z, i0.zero = some z ∧ z.cells.size = 1 := ⟨Try.t3, by kernel_rfl, by kernel_rfl, by decide, _, rfl, by decide⟩
  have hbig : n * i0.bytes ≤ 140737488355328 := Nat.le_trans (Nat.mul_le_mul hn hz2) (by decide)
  have A : Aside (∀ j u, cs[j]? = some u → w.cell? ⟨b, off + j, none⟩ = some u) := hc
  clear hc
  go_enter Try.func81, Try.ntmps81
  go_wp2_with (at_builtin; refine wpList_append_own _ rfl _ _ 50 rfl w.heap.size 3 i0 z 1 i0.bytes Try.underlying50 hi hz hz1 rfl hzs (by decide) _ _ _ rfl (World.ownsRow_made w #[] 0 (Nat.le_refl _) (Nat.zero_le _) rfl) ⟨b, off, none⟩ n c cs rfl ?qc1 ?qc2 ?qc3 ?qc4 ?qc5 ?qc6 ?_)
  case qc1 => omega
  case qc2 =>
    intro j u hj
    rw [Addr.add_lit]
    exact Lib.cell?_alloc_some _ (A.out j u hj)
  case qc3 => exact h1
  case qc4 => unfold maxLen; omega
  case qc5 => simpa using hbig
  case qc6 => simp
  intro v' w1 hown hgrow hnil
  go_wp2
  go_ret
  refine ⟨v', rfl, by simpa using hown, ?_, ?_⟩
  · exact hnil
  · exact ((Below.refl _ w).alloc (Nat.le_refl _) _).grown hgrow (by simp) (by intro k hk; simp [Value.ownBlock] at hk; omega)
def p_clone_i : NFn := ⟨fun xs kk => match xs with | [.sl _ 1 n cells] => bif decide (0 < n) && decide (n ≤ 1000000) then kk 1 n cells else none | _ => none⟩
theorem nok_clone_i {NG : Nat} {W : World → Prop} : NOK NG W 81 p_clone_i where
  nat := by
    intro R xs kk
    simp only [p_clone_i]
    split
    · rcases (decide (0 < _) && decide (_ ≤ 1000000)) with _ | _ <;> rfl
    · rfl
  call := by
    intro M xs vs sz n cells hW hng hG hr h
    simp only [p_clone_i] at h
    split at h
    · rename_i nl n' cells'
      rcases hb : (decide (0 < n') && decide (n' ≤ 1000000)) with _ | _ <;> rw [hb] at h
      · cases h
      simp only [cond_true, Option.some.injEq, Prod.mk.injEq] at h
      obtain ⟨rfl, rfl, rfl⟩ := h
      simp only [Bool.and_eq_true, decide_eq_true_eq] at hb
      obtain ⟨v, rfl, hv⟩ := relT1 hr
      simp only [RelD] at hv
      obtain ⟨A, c, cs, rfl, g1, g2, g3, g4, g5, g6, g7⟩ := hv
      have hcl : cs.length = n' := by rw [← g6.length, g5]; omega
      obtain rfl | ⟨b, o, rfl, hat⟩ := g7
      · simp at hcl; omega
      refine .inr ⟨?_, (clone_i b o n' c cs M.w hb.1 hb.2 hcl g6.one fun j u hj => (hat j u hj).1).mono ?_⟩
      · show (callFunc _ _).run Try.prog M.w = _
        simp [callFunc, Try.func81]
        rw [if_neg (by decide), if_neg (by decide)]
      · rintro e w' ⟨v', rfl, k1, k2, k3⟩
        obtain ⟨b', c', rfl, q1, q2, q3, q4, q5⟩ := ownsRow_bsl k1 k2
        have hm : Move M ⟨w', fun x => if x < M.w.heap.size then M.U x else 0, M.y⟩ none := Move.mk0 k3 fun x hx => by simp [hx]
        exact ⟨_, rfl, _, hm, b', c', _, cs, rfl, q1, q2, g6.mono hm.le, by simp; omega, q3, q4, q5⟩
    · cases h

set_option maxHeartbeats 4000000 in
theorem clone_n (b off n c : Nat) (cs : List Value) (w : World) (h0 : 0 < n) (hn : n ≤ 1000000) (hl : cs.length = n) (h1 : ∀ u ∈ cs, u.oneCell' = true) (hc : ∀ j u, cs[j]? = some u → w.cell? ⟨b, off + j, none⟩ = some u) :
    Calls Try.prog 86 #[.slice (some ⟨b, off, none⟩) n c] w fun e w' => ∃ v', e = .returned v' ∧ w'.ownsRow w.heap.size 93 1 v' n cs ∧ v' ≠ .slice none 0 0 ∧ Below w.heap.size w w' := by
  have q22 : ∀ (w : World) (a : Option Addr) (n c n' c' : Nat), (binOp .eql 99 (.slice a n c) (.slice none n' c')).run Try.prog w = .ok (.bool a.isNone) w := fun w a n c n' c' => Lib.run_eql_slice_nil w _ _ a n c n' c' Try.underlying99
  obtain ⟨i0, hi, hz1, hz2, z, hz, hzs⟩ : ∃ i0, Try.prog.info? 93 = some i0 ∧ i0.size = 1 ∧ i0.bytes ≤ 100 ∧ ∃ z, i0.zero = some z ∧ z.cells.size = 1 := ⟨Try.t93, by kernel_rfl, by kernel_rfl, by decide, _, rfl, by decide⟩
  have hbig : n * i0.bytes ≤ 140737488355328 := Nat.le_trans (Nat.mul_le_mul hn hz2) (by decide)
  have A : Aside (∀ j u, cs[j]? = some u → w.cell? ⟨b, off + j, none⟩ = some u) := hc
  clear hc
  go_enter Try.func86, Try.ntmps86
  go_wp2_with (at_builtin; refine wpList_append_own _ rfl _ _ 99 rfl w.heap.size 93 i0 z 1 i0.bytes Try.underlying99 hi hz hz1 rfl hzs (by decide) _ _ _ rfl (World.ownsRow_made w #[] 0 (Nat.le_refl _) (Nat.zero_le _) rfl) ⟨b, off, none⟩ n c cs rfl ?qc1 ?qc2 ?qc3 ?qc4 ?qc5 ?qc6 ?_)
  case qc1 => omega
  case qc2 =>
    intro j u hj
    rw [Addr.add_lit]
    exact Lib.cell?_alloc_some _ (A.out j u hj)
  case qc3 => exact h1
  case qc4 => unfold maxLen; omega
  case qc5 => simpa using hbig
  case qc6 => simp
  intro v' w1 hown hgrow hnil
  go_wp2
  go_ret
  refine ⟨v', rfl, by simpa using hown, ?_, ?_⟩
  · exact hnil
  · exact ((Below.refl _ w).alloc (Nat.le_refl _) _).grown hgrow (by simp) (by intro k hk; simp [Value.ownBlock] at hk; omega)
def p_clone_n : NFn := ⟨fun xs kk => match xs with | [.sl _ 1 n cells] => bif decide (0 < n) && decide (n ≤ 1000000) then kk 1 n cells else none | _ => none⟩
theorem nok_clone_n {NG : Nat} {W : World → Prop} : NOK NG W 86 p_clone_n where
  nat := by
    intro R xs kk
    simp only [p_clone_n]
    split
    · rcases (decide (0 < _) && decide (_ ≤ 1000000)) with _ | _ <;> rfl
    · rfl
  call := by
    intro M xs vs sz n cells hW hng hG hr h
    simp only [p_clone_n] at h
    split at h
    · rename_i nl n' cells'
      rcases hb : (decide (0 < n') && decide (n' ≤ 1000000)) with _ | _ <;> rw [hb] at h
      · cases h
      simp only [cond_true, Option.some.injEq, Prod.mk.injEq] at h
      obtain ⟨rfl, rfl, rfl⟩ := h
      simp only [Bool.and_eq_true, decide_eq_true_eq] at hb
      obtain ⟨v, rfl, hv⟩ := relT1 hr
      simp only [RelD] at hv
      obtain ⟨A, c, cs, rfl, g1, g2, g3, g4, g5, g6, g7⟩ := hv
      have hcl : cs.length = n' := by rw [← g6.length, g5]; omega
      obtain rfl | ⟨b, o, rfl, hat⟩ := g7
      · simp at hcl; omega
      refine .inr ⟨?_, (clone_n b o n' c cs M.w hb.1 hb.2 hcl g6.one fun j u hj => (hat j u hj).1).mono ?_⟩
      · show (callFunc _ _).run Try.prog M.w = _
        simp [callFunc, Try.func86]
        rw [if_neg (by decide), if_neg (by decide)]
      · rintro e w' ⟨v', rfl, k1, k2, k3⟩
        obtain ⟨b', c', rfl, q1, q2, q3, q4, q5⟩ := ownsRow_bsl k1 k2
        have hm : Move M ⟨w', fun x => if x < M.w.heap.size then M.U x else 0, M.y⟩ none := Move.mk0 k3 fun x hx => by simp [hx]
        exact ⟨_, rfl, _, hm, b', c', _, cs, rfl, q1, q2, g6.mono hm.le, by simp; omega, q3, q4, q5⟩
    · cases h
end Go.Proofs.Ytmacjkiamejcnaa
