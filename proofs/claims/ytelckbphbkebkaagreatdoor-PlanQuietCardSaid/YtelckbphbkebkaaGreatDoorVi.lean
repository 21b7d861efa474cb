/-
  Nodes: what is well formed and of a small size has a value; the value's kind; the law EvalLogic in plain terms.
-/
import Derived.Test.YtelckbphbkebkaaGreatDoorVh
import Derived.Test.YtelckbphbkebkaaGreatDoorVg
set_option linter.unusedVariables false
set_option linter.unusedSimpArgs false
set_option maxRecDepth 100000
namespace Go.Proofs.YtelckbphbkebkaaGreatDoor
open Go.RowKit

/-! ## right values, reckoned -/
theorem mulV_in (a sa b sb tt : Int) : inI (mulV a sa b sb tt) = true := by
  unfold mulV
  cases (scaleB sa && scaleB sb && scaleB tt)
  · rfl
  · exact ansV_in _
theorem divV_in (a sa b sb tt : Int) : inI (divV a sa b sb tt) = true := by
  unfold divV
  cases (scaleB sa && scaleB sb && scaleB tt)
  · rfl
  · cases (b == 0)
    · exact ansV_in _
    · rfl
theorem modV_in {a b : Int} (h : inI a = true) : inI (modV a b) = true := by
  unfold modV
  cases (b == 0)
  · cases (b == -1)
    · simp only [cond_false]
      rw [inI_iff] at h ⊢
      have h1 : (a.tmod b).natAbs ≤ a.natAbs := by
        rw [Int.natAbs_tmod]
        exact Nat.mod_le _ _
      rcases Int.le_total 0 a with h0 | h0
      · have := Int.tmod_nonneg b h0
        omega
      · have h2 := Int.tmod_nonneg (a := -a) b (by omega)
        rw [Int.neg_tmod] at h2
        omega
    · rfl
  · rfl
theorem whS_in (op : List UInt8) {a b : Int} (h : inI a = true) : inI (whS op a b).1 = true := by
  unfold whS
  cases (op == [43])
  · cases (op == [45])
    · cases (op == [42])
      · cases (op == [47])
        · cases (op == [37])
          · rfl
          · simp only [cond_true, cond_false]; exact modV_in h
        · simp only [cond_true, cond_false]; exact divV_in _ _ _ _ _
      · simp only [cond_true, cond_false]; exact mulV_in _ _ _ _ _
    · simp only [cond_true, cond_false]; exact ansV_in _
  · simp only [cond_true, cond_false]; exact ansV_in _
theorem scS_in (op : List UInt8) (a b : Val) (z : Int) : inI (scS op a b z).1 = true := by
  unfold scS
  cases (op == [42])
  · cases (op == [47])
    · cases (!(op == [43]) && !(op == [45]))
      · cases (!(scaE a.n a.scale z == 0))
        · cases (!(scaE b.n b.scale z == 0))
          · simp only [cond_true, cond_false]; exact whS_in op (scaV_in _ _ _)
          · rfl
        · rfl
      · rfl
    · simp only [cond_true, cond_false]; exact divV_in _ _ _ _ _
  · simp only [cond_true, cond_false]; exact mulV_in _ _ _ _ _
theorem right_num {v : Val} (h : right v = true) (hk : nuB v.kind = true) : 0 ≤ v.scale ∧ v.scale ≤ 6 ∧ v.s = [] := by
  unfold nuB at hk
  simp only [Bool.or_eq_true, beq_iff_eq] at hk
  unfold right at h
  rcases hk with hk | hk
  · rw [if_neg (by omega), if_neg (by omega), if_pos hk] at h
    simp at h
    exact ⟨by omega, by omega, h.2⟩
  · rw [if_neg (by omega), if_neg (by omega), if_neg (by omega), if_pos hk] at h
    simp at h
    exact ⟨h.2.1, h.2.2, h.1⟩
theorem gd_ar (op : List UInt8) {a b : Val} (ha : gd a = true) (hb : gd b = true) : gd (arS op a b).1 = true := by
  simp only [gd, Bool.and_eq_true] at ha hb
  unfold arS
  cases (!ariE op)
  · cases (a.kind == 0 || b.kind == 0)
    · rcases hn : (!nuB a.kind || !nuB b.kind) with _ | _
      · simp only [cond_false]
        cases (a.kind == 2 && b.kind == 2)
        · simp only [cond_false]
          cases (!((scS op a b (maxI a.scale b.scale)).2 == 0))
          · simp only [Bool.or_eq_false_iff, Bool.not_eq_false'] at hn
            have r1 := right_num ha.1 hn.1
            have r2 := right_num hb.1 hn.2
            have hm : 0 ≤ maxI a.scale b.scale ∧ maxI a.scale b.scale ≤ 6 := by
              unfold maxI
              split <;> omega
            simp only [cond_false, gd, Bool.and_eq_true]
            refine ⟨?_, scS_in op a b _⟩
            unfold right
            rw [if_neg (show ¬ ((3 : Int) = 0) by decide), if_neg (show ¬ ((3 : Int) = 1) by decide), if_neg (show ¬ ((3 : Int) = 2) by decide), if_pos rfl]
            exact decide_eq_true ⟨rfl, hm.1, hm.2⟩
          · rfl
        · simp only [cond_true]
          cases (!((whS op a.n b.n).2 == 0))
          · simp only [cond_false, gd, Bool.and_eq_true]
            exact ⟨rfl, whS_in op ha.2⟩
          · rfl
      · rfl
    · rfl
  · rfl
theorem gd_un (op : List UInt8) {v : Val} (h : gd v = true) : gd (unS op v).1 = true := by
  simp only [gd, Bool.and_eq_true] at h
  unfold unS
  cases (op == [78, 79, 84])
  · cases (op == [45])
    · rfl
    · simp only [cond_true, cond_false]
      rcases hk : (!(v.kind == 0) && !nuB v.kind) with _ | _
      · simp only [cond_false]
        cases (!(ansE (0 - v.n) == 0))
        · simp only [cond_false, gd, Bool.and_eq_true]
          refine ⟨?_, ansV_in _⟩
          have hr := h.1
          unfold right at hr ⊢
          dsimp only
          simp only [nuB, Bool.and_eq_false_iff, Bool.not_eq_false', beq_iff_eq, Bool.or_eq_true] at hk
          rcases hk with hk | hk | hk
          · rw [if_pos hk] at hr ⊢
            simp only [decide_eq_true_eq] at hr ⊢
            rw [hr.1]
            exact ⟨rfl, hr.2⟩
          · have k0 : ¬ v.kind = 0 := by omega
            have k1 : ¬ v.kind = 1 := by omega
            rw [if_neg k0, if_neg k1, if_pos hk] at hr ⊢
            exact hr
          · have k0 : ¬ v.kind = 0 := by omega
            have k1 : ¬ v.kind = 1 := by omega
            have k2 : ¬ v.kind = 2 := by omega
            rw [if_neg k0, if_neg k1, if_neg k2, if_pos hk] at hr ⊢
            exact hr
        · rfl
      · rfl
  · exact gd_tv _
theorem numS_gd (n c t u : Int) : inI (numS n c t u).1.n = true := by
  unfold numS
  cases scaE n c u == 0
  · rfl
  · exact scaV_in _ _ _
theorem cast_inI {v : Val} {t u : Int} (hn : inI v.n = true) : inI (castS v t u).1.n = true := by
  unfold castS
  cases !tyB t u
  · cases !right v || v.kind == 0
    · simp only [cond_false]
      cases ofB v t u
      · simp only [cond_false]
        have hT : ∀ s : List UInt8, inI (textS s).1.n = true := by
          intro s
          unfold textS
          cases Lib.validD s <;> rfl
        cases v.kind == 1
        · cases v.kind == 2 || v.kind == 3
          · cases v.kind == 4
            · simp only [cond_false]
              unfold fromBytesS
              cases t == 4
              · rfl
              · exact hT _
            · simp only [cond_false, cond_true]
              unfold fromTextS
              cases t == 1
              · cases t == 2 || t == 3
                · cases t == 5 <;> rfl
                · simp only [cond_false, cond_true]
                  unfold parS
                  split
                  · exact numS_gd _ _ _ _
                  · rfl
              · cases v.s == trueS
                · cases v.s == falseS <;> rfl
                · rfl
          · simp only [cond_false, cond_true]
            unfold fromNumS
            cases t == 1
            · cases t == 2 || t == 3
              · cases t == 4 <;> rfl
              · exact numS_gd _ _ _ _
            · simp only [cond_true]
              cases v.kind == 2 && (v.n == 0 || v.n == 1)
              · rfl
              · cases v.n == 1 <;> rfl
        · simp only [cond_true]
          unfold fromBoolS
          cases t == 2
          · cases t == 4
            · rfl
            · simp only [cond_true, cond_false]
              cases v.n == 1 <;> rfl
          · exact hn
      · exact hn
    · rfl
  · rfl
theorem numS_or (n c t u : Int) : (numS n c t u).2 = 0 ∨ (numS n c t u).1 = vnull := by
  unfold numS
  cases scaE n c u == 0
  · exact .inr rfl
  · exact .inl rfl
theorem cast_or (v : Val) (t u : Int) : (castS v t u).2 = 0 ∨ (castS v t u).1 = vnull := by
  unfold castS
  cases !tyB t u
  · cases !right v || v.kind == 0
    · simp only [cond_false]
      cases ofB v t u
      · simp only [cond_false]
        have hT : ∀ s : List UInt8, (textS s).2 = 0 ∨ (textS s).1 = vnull := by
          intro s
          unfold textS
          cases Lib.validD s <;> first | exact .inl rfl | exact .inr rfl
        cases v.kind == 1
        · cases v.kind == 2 || v.kind == 3
          · cases v.kind == 4
            · simp only [cond_false]
              unfold fromBytesS
              cases t == 4
              · first | exact .inl rfl | exact .inr rfl
              · exact hT _
            · simp only [cond_false, cond_true]
              unfold fromTextS
              cases t == 1
              · cases t == 2 || t == 3
                · cases t == 5 <;> first | exact .inl rfl | exact .inr rfl
                · simp only [cond_false, cond_true]
                  unfold parS
                  split
                  · exact numS_or _ _ _ _
                  · first | exact .inl rfl | exact .inr rfl
              · cases v.s == trueS
                · cases v.s == falseS <;> first | exact .inl rfl | exact .inr rfl
                · first | exact .inl rfl | exact .inr rfl
          · simp only [cond_false, cond_true]
            unfold fromNumS
            cases t == 1
            · cases t == 2 || t == 3
              · cases t == 4 <;> first | exact .inl rfl | exact .inr rfl
              · exact numS_or _ _ _ _
            · simp only [cond_true]
              cases v.kind == 2 && (v.n == 0 || v.n == 1)
              · first | exact .inl rfl | exact .inr rfl
              · cases v.n == 1 <;> first | exact .inl rfl | exact .inr rfl
        · simp only [cond_true]
          unfold fromBoolS
          cases t == 2
          · cases t == 4
            · first | exact .inl rfl | exact .inr rfl
            · simp only [cond_true, cond_false]
              cases v.n == 1 <;> first | exact .inl rfl | exact .inr rfl
          · exact .inl rfl
      · exact .inl rfl
    · first | exact .inl rfl | exact .inr rfl
  · first | exact .inl rfl | exact .inr rfl
theorem gd_cast {v : Val} (t u : Int) (h : gd v = true) : gd (castS v t u).1 = true := by
  simp only [gd, Bool.and_eq_true] at h ⊢
  refine ⟨?_, cast_inI h.2⟩
  rcases cast_or v t u with e | e
  · have := cast_of h.2 e
    simp only [ofB, Bool.and_eq_true] at this
    exact this.2.1
  · rw [e]; rfl

end Go.Proofs.YtelckbphbkebkaaGreatDoor
