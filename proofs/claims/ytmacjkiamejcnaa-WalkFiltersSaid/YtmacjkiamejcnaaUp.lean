/-
  TreeOrders: what it computes.
-/
import Derived.Test.YtmacjkiamejcnaaUo
set_option linter.unusedVariables false
set_option linter.unusedSimpArgs false
set_option maxRecDepth 100000
namespace Go.Proofs.Ytmacjkiamejcnaa
open Go.RowKit
/-! ## lists with the same pairs -/
theorem mem_ins {k : Ky} {v : PV} : ∀ {l : List (Ky × PV)} {q : Ky × PV}, q ∈ insK k v l → q = (k, v) ∨ q ∈ l
  | [], q, h => by simp [insK] at h; exact .inl h
  | p :: r, q, h => by
    simp only [insK] at h
    split at h
    · rcases List.mem_cons.1 h with rfl | h
      · exact .inl rfl
      · exact .inr (List.mem_cons_of_mem _ h)
    · split at h
      · rcases List.mem_cons.1 h with rfl | h
        · exact .inl rfl
        · exact .inr h
      · rcases List.mem_cons.1 h with rfl | h
        · exact .inr List.mem_cons_self
        · exact (mem_ins h).imp id (List.mem_cons_of_mem _)
theorem ins_mem {k : Ky} {v : PV} : ∀ {l : List (Ky × PV)}, (k, v) ∈ insK k v l
  | [] => by simp [insK]
  | p :: r => by
    simp only [insK]
    split
    · exact List.mem_cons_self
    · split
      · exact List.mem_cons_self
      · exact List.mem_cons_of_mem _ ins_mem
theorem ins_keep {k : Ky} {v : PV} : ∀ {l : List (Ky × PV)} {q : Ky × PV}, q ∈ l → q.1 ≠ k → q ∈ insK k v l
  | p :: r, q, h, hk => by
    simp only [insK]
    rcases List.mem_cons.1 h with rfl | h
    · split
      · rename_i e; exact absurd (by simpa using e) hk
      · split
        · exact List.mem_cons_of_mem _ List.mem_cons_self
        · exact List.mem_cons_self
    · split
      · exact List.mem_cons_of_mem _ h
      · split
        · exact List.mem_cons_of_mem _ (List.mem_cons_of_mem _ h)
        · exact List.mem_cons_of_mem _ (ins_keep h hk)
theorem srt_ext : ∀ {l m : List (Ky × PV)}, Srt l → Srt m → (∀ p, p ∈ l ↔ p ∈ m) → l = m
  | [], [], _, _, _ => rfl
  | [], b :: m, _, _, h => by have := (h b).2 List.mem_cons_self; cases this
  | a :: l, [], _, _, h => by have := (h a).1 List.mem_cons_self; cases this
  | a :: l, b :: m, hl, hm, h => by
    have hl' := List.pairwise_cons.1 hl
    have hm' := List.pairwise_cons.1 hm
    have hab : a = b := by
      rcases List.mem_cons.1 ((h a).1 List.mem_cons_self) with e | e
      · exact e
      · rcases List.mem_cons.1 ((h b).2 List.mem_cons_self) with e2 | e2
        · exact e2.symm
        · have h1 := hm'.1 a e
          have h2 := hl'.1 b e2
          rw [kl_asym h1] at h2
          cases h2
    subst hab
    congr 1
    refine srt_ext hl'.2 hm'.2 fun p => ?_
    constructor
    · intro hp
      rcases List.mem_cons.1 ((h p).1 (List.mem_cons_of_mem _ hp)) with rfl | h2
      · have := hl'.1 p hp
        rw [kl_irr] at this
        cases this
      · exact h2
    · intro hp
      rcases List.mem_cons.1 ((h p).2 (List.mem_cons_of_mem _ hp)) with rfl | h2
      · have := hm'.1 p hp
        rw [kl_irr] at this
        cases this
      · exact h2
/-! ## the pairs of the law -/
def keyU (u : UInt8) : Ky := [u, 120]
def prU (u : UInt8) : Ky × PV := (keyU u, .int .i64 ((u.toNat : Int) * 3))
def insU (l : List (Ky × PV)) (u : UInt8) : List (Ky × PV) := insK (keyU u) (.int .i64 ((u.toNat : Int) * 3)) l
theorem keyX_u (u : UInt8) : keyX (u.toNat : Int) = keyU u := by
  unfold keyX keyU
  rw [Int.toNat_natCast, UInt8.ofNat_toNat]
theorem keyU_inj {u v : UInt8} (h : keyU u = keyU v) : u = v := by
  unfold keyU at h
  injection h
theorem fold_srt : ∀ (l : List UInt8) {a : List (Ky × PV)}, Srt a → Srt (l.foldl insU a)
  | [], a, h => h
  | u :: l, a, h => fold_srt l h.ins
theorem fold_mem : ∀ (l : List UInt8) {a : List (Ky × PV)}, (∀ p ∈ a, ∃ u, p = prU u) → ∀ p, p ∈ l.foldl insU a ↔ (∃ u ∈ l, p = prU u) ∨ p ∈ a
  | [], a, h, p => by simp
  | u :: l, a, h, p => by
    have h2 : ∀ p ∈ insU a u, ∃ u, p = prU u := fun p hp => by
      rcases mem_ins hp with rfl | hp
      · exact ⟨u, rfl⟩
      · exact h p hp
    rw [List.foldl_cons, fold_mem l h2 p]
    constructor
    · rintro (⟨w, hw, rfl⟩ | hp)
      · exact .inl ⟨w, List.mem_cons_of_mem _ hw, rfl⟩
      · rcases mem_ins hp with rfl | hp
        · exact .inl ⟨u, List.mem_cons_self, rfl⟩
        · exact .inr hp
    · rintro (⟨w, hw, rfl⟩ | hp)
      · rcases List.mem_cons.1 hw with rfl | hw
        · exact .inr ins_mem
        · exact .inl ⟨w, hw, rfl⟩
      · obtain ⟨w, rfl⟩ := h p hp
        by_cases e : w = u
        · subst e; exact .inr ins_mem
        · exact .inr (ins_keep hp fun q => e (keyU_inj q))
theorem fold_len : ∀ (l : List UInt8) {a : List (Ky × PV)}, Srt a → (l.foldl insU a).length ≤ a.length + l.length
  | [], a, h => by simp
  | u :: l, a, h => by
    have h1 := fold_len l (a := insU a u) h.ins
    have h2 : (insU a u).length ≤ a.length + 1 := by unfold insU; rw [ins_len h]; split <;> omega
    rw [List.foldl_cons, List.length_cons]
    omega
theorem fold_rev (l : List UInt8) : l.reverse.foldl insU [] = l.foldl insU [] := by
  refine srt_ext (fold_srt _ List.Pairwise.nil) (fold_srt _ List.Pairwise.nil) fun p => ?_
  rw [fold_mem _ (fun p hp => by cases hp), fold_mem _ (fun p hp => by cases hp)]
  simp
theorem from_nil (l : List (Ky × PV)) : fromK [] l = l := List.filter_eq_self.2 fun p _ => by
  cases p.1 <;> rfl
theorem u8At_eq {S : Type} {ks : List UInt8} {i : Nat} {u : UInt8} (h : ks[i]? = some u) (k : Int → Option S) : u8At ks.length (ks.map bytePV) (i : Int) k = k (u.toNat : Int) := by
  have hi := (List.getElem?_eq_some_iff.1 h).1
  unfold u8At
  rw [cond_t (by rw [decide_eq_true (by omega), decide_eq_true (by omega)]; rfl), Int.toNat_natCast, Nat.mul_one, List.head?_take, if_neg (by decide), List.head?_drop, List.getElem?_map, h]
  rfl
theorem wrap3 (u : UInt8) : IntKind.i64.wrap (IntKind.i64.wrap (u.toNat : Int) * 3) = (u.toNat : Int) * 3 := by
  have := u.toNat_lt
  rw [wrapI_of (x := (u.toNat : Int)) (by omega) (by omega), wrapI_of (by omega) (by omega)]
section
variable (ks : List UInt8) (hk : ks.length ≤ 250)
include hk
theorem or_loop0 (fu : Nat) (nl : Option Bool) : ∀ (m i n : Nat) (x y : PV) (a b : List (Ky × PV)), i + m = ks.length → m < n → RootIs x a → RootIs y b → a.length ≤ i → b.length ≤ i →
    ∃ x' y', RootIs x' ((ks.drop i).foldl insU a) ∧ RootIs y' ((ks.reverse.drop i).foldl insU b) ∧ orLoop0 fu n (frOr0 x y nl ks.length (ks.map bytePV) (ks.length : Int) (i : Int)) = orTail fu (frOr1 x' y' nl ks.length (ks.map bytePV))
  | m, i, 0, x, y, a, b, hi, hn, hx, hy, ha, hb => by omega
  | 0, i, n + 1, x, y, a, b, hi, hn, hx, hy, ha, hb => by
    refine ⟨x, y, ?_, ?_, ?_⟩
    · rw [List.drop_eq_nil_of_le (by omega)]; exact hx
    · rw [List.drop_eq_nil_of_le (by rw [List.length_reverse]; omega)]; exact hy
    · unfold orLoop0
      rw [loopF_succ, or_step0 fu nl _ _ _ _ hx.isR hy.isR]
      unfold orR
      rw [cond_f (decide_eq_false (by omega))]
  | m + 1, i, n + 1, x, y, a, b, hi, hn, hx, hy, ha, hb => by
    have hp : ks[i]? = some ks[i] := List.getElem?_eq_getElem (by omega)
    have hq : ks[ks.length - 1 - i]? = some ks[ks.length - 1 - i] := List.getElem?_eq_getElem (by omega)
    have hr : ks.reverse[i]? = some ks[ks.length - 1 - i] := by rw [List.getElem?_reverse (by omega), hq]
    obtain ⟨x', hx', ex⟩ := put_law hx (by omega) (keyU ks[i]) ((ks[i].toNat : Int) * 3)
    obtain ⟨y', hy', ey⟩ := put_law hy (by omega) (keyU ks[ks.length - 1 - i]) ((ks[ks.length - 1 - i].toNat : Int) * 3)
    have la : (insU a ks[i]).length ≤ i + 1 := by unfold insU; rw [ins_len hx.srt]; split <;> omega
    have lb : (insU b ks[ks.length - 1 - i]).length ≤ i + 1 := by unfold insU; rw [ins_len hy.srt]; split <;> omega
    obtain ⟨x2, y2, h1, h2, h3⟩ := or_loop0 fu nl m (i + 1) n x' y' _ _ (by omega) (by omega) hx' hy' la lb
    refine ⟨x2, y2, ?_, ?_, ?_⟩
    · rw [drop_cons_some hp, List.foldl_cons]; exact h1
    · rw [drop_cons_some hr, List.foldl_cons]; exact h2
    · rw [← h3]
      unfold orLoop0
      rw [loopF_succ, or_step0 fu nl _ _ _ _ hx.isR hy.isR]
      unfold orR
      rw [cond_t (decide_eq_true (by omega)), u8At_eq hp, keyX_u, wrap3, ex]
      simp only [on1]
      rw [wrapI_of (x := (ks.length : Int) - 1) (by omega) (by omega), wrapI_of (x := (ks.length : Int) - 1 - (i : Int)) (by omega) (by omega), show (ks.length : Int) - 1 - (i : Int) = ((ks.length - 1 - i : Nat) : Int) by omega, u8At_eq hq, keyX_u, wrap3, ey]
      simp only
      rw [wrapI_of (by omega) (by omega)]
      rfl
theorem or_loop2 (fu : Nat) (nl : Option Bool) : ∀ (m i n : Nat) (x : PV) (a : List (Ky × PV)), i + m = ks.length → m < n → RootIs x a → a.length ≤ 1000 → (∀ p ∈ a, ∃ u ∈ ks.drop i, p = prU u) →
    orLoop2 fu n (frOr2 x (a.length : Int) nl ks.length (ks.map bytePV) (ks.length : Int) (i : Int)) = some (.bool true)
  | m, i, 0, x, a, hi, hn, hx, ha, hc => by omega
  | 0, i, n + 1, x, a, hi, hn, hx, ha, hc => by
    have he : a = [] := by
      cases a with
      | nil => rfl
      | cons p r =>
        obtain ⟨u, hu, _⟩ := hc p List.mem_cons_self
        rw [List.drop_eq_nil_of_le (by omega)] at hu
        cases hu
    subst he
    obtain ⟨z, hz, ez⟩ := lev_law hx (by simp)
    have hz0 : z = 0 := by
      rcases hz with ⟨h, _⟩ | ⟨_, h, _⟩
      · exact h
      · exact absurd rfl h
    subst hz0
    unfold orLoop2
    rw [loopF_succ, or_step2 fu nl _ _ _ _ _ hx.isR]
    unfold orS
    rw [cond_f (decide_eq_false (by omega)), cond_t (by rfl), ez]
    simp only [onI]
    rw [cond_t (by rfl)]
    unfold clF
    rw [takenF_law hx (by simp) [] 9 (by omega)]
    rfl
  | m + 1, i, n + 1, x, a, hi, hn, hx, ha, hc => by
    have hp : ks[i]? = some ks[i] := List.getElem?_eq_getElem (by omega)
    obtain ⟨x', hx', ex⟩ := del_law hx (by omega) (keyU ks[i])
    have hdl := del_len (k := keyU ks[i]) hx.srt
    have ih := or_loop2 fu nl m (i + 1) n x' _ (by omega) (by omega) hx' (by rw [hdl]; split <;> omega) (fun p hp2 => by
      have h1 := List.mem_filter.1 hp2
      obtain ⟨u, hu, rfl⟩ := hc p h1.1
      rw [drop_cons_some hp] at hu
      rcases List.mem_cons.1 hu with rfl | hu
      · have h2 : (keyU ks[i] != keyU ks[i]) = true := h1.2
        simp at h2
      · exact ⟨u, hu, rfl⟩)
    unfold orLoop2 at ih ⊢
    rw [loopF_succ, or_step2 fu nl _ _ _ _ _ hx.isR]
    unfold orS
    rw [cond_t (decide_eq_true (by omega)), u8At_eq hp, keyX_u, ex]
    simp only [on1, onB]
    rcases hh : hasK (keyU ks[i]) a with _ | _
    · rw [hh, if_neg (by simp), Nat.sub_zero] at hdl
      rw [cond_false, len_law hx']
      simp only [onI]
      rw [hdl, cond_f (by simp), wrapI_of (by omega) (by omega)]
      rw [hdl] at ih
      exact ih
    · have h1 : 1 ≤ a.length := by
        cases a with
        | nil => simp [hasK] at hh
        | cons _ _ => simp
      rw [hh, if_pos rfl] at hdl
      rw [cond_true, len_law hx']
      simp only [onI]
      rw [wrapI_of (x := (a.length : Int) - 1) (by omega) (by omega), wrapI_of (x := (i : Int) + 1) (by omega) (by omega), show (a.length : Int) - 1 = ((delK (keyU ks[i]) a).length : Int) by omega, cond_f (by simp)]
      exact ih
end
theorem or_true (ks : List UInt8) (nl : Option Bool) : prun enL hOr 2000 false Try.f6 [.sl nl 1 ks.length (ks.map bytePV)] = some (.bool true) := by
  rw [or_raw]
  by_cases hk : 250 < ks.length
  · rw [cond_t (decide_eq_true (by omega))]
  · rw [cond_f (decide_eq_false (by omega))]
    have hk : ks.length ≤ 250 := by omega
    obtain ⟨x, y, h1, h2, h3⟩ := or_loop0 ks hk 2000 nl ks.length 0 2000 .nilptr .nilptr [] [] (by omega) (by omega) (.inl ⟨rfl, rfl⟩) (.inl ⟨rfl, rfl⟩) (by simp) (by simp)
    rw [List.drop_zero] at h1 h2
    rw [fold_rev] at h2
    have hla := fold_len ks (a := []) List.Pairwise.nil
    simp only [List.length_nil, Nat.zero_add] at hla
    refine h3.trans ?_
    rw [or_tail 2000 nl _ _ h1.isR h2.isR]
    unfold orT clF
    rw [takenF_law h1 (by omega) [] 1000 (by omega)]
    simp only
    rw [takenF_law h2 (by omega) [] 1000 (by omega), from_nil, List.take_of_length_le (by show _ ≤ 1000; omega)]
    simp only [p_same, pSl]
    rw [gP_of (by omega) h1.vok, Option.bind_some, Option.bind_some]
    simp only [onB]
    rw [sameK_self, cond_t (by rfl), len_law h1]
    simp only [onI]
    rw [len_law h2]
    simp only [onI]
    rw [cond_f (by simp), len_law h1]
    simp only [onI]
    exact or_loop2 ks hk 2000 nl ks.length 0 2000 x _ (by omega) (by omega) h1 (by omega) (fun p hp => by
      rw [fold_mem ks (fun p hp => by cases hp)] at hp
      rcases hp with ⟨u, hu, rfl⟩ | hp
      · exact ⟨u, hu, rfl⟩
      · cases hp)
end Go.Proofs.Ytmacjkiamejcnaa
