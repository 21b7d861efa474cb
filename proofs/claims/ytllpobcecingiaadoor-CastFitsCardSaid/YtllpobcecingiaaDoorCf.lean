/-
  Casts: the law CastFits.
-/
import Derived.Test.YtllpobcecingiaaDoorCe
set_option linter.unusedVariables false
set_option linter.unusedSimpArgs false
set_option maxRecDepth 100000
namespace Go.Proofs.YtllpobcecingiaaDoor
open Go.RowKit

theorem right_dec {n c : Int} (h0 : 0 ≤ c) (h6 : c ≤ 6) : right ⟨3, n, c, []⟩ = true := by
  unfold right
  simp [h0, h6]
theorem rt_null : rtV vnull = vnull := by unfold rtV; cases right vnull <;> rfl
theorem rt_right {v : Val} (h : right v = true) : rtV v = v := by unfold rtV; rw [h]; rfl
theorem cmpS_null_l (b : Val) : cmpS vnull b = (0, false) := by unfold cmpS; rw [rt_null]; rfl
theorem cmpS_null_r {a : Val} (ha : right a = true) (hk : a.kind = 2 ∨ a.kind = 3) : cmpS a vnull = (0, false) := by
  unfold cmpS
  rw [rt_null, rt_right ha]
  rcases hk with h | h <;> rw [h] <;> rfl
theorem cmpS_num {a b : Val} (ha : right a = true) (hb : right b = true) (hk : a.kind = 2 ∨ a.kind = 3) (hl : b.kind = 2 ∨ b.kind = 3) : cmpS a b = (dcmp a.n a.scale b.n b.scale, true) := by
  unfold cmpS insS
  rw [rt_right ha, rt_right hb]
  rcases hk with h | h <;> rcases hl with k | k <;> rw [h, k] <;> rfl
theorem dcmp_up {n c n' c' y : Int} (h0 : 0 ≤ c) (h1 : c ≤ y) (h2 : 0 ≤ c') (h3 : c' ≤ y) (h6 : y ≤ 6) : dcmp (n * tenI (y - c)) y (n' * tenI (y - c')) y = dcmp n c n' c' := by
  unfold dcmp
  rw [scaB_of (show 0 ≤ y by omega) h6, scaB_of h0 (by omega), scaB_of h2 (by omega)]
  simp only [Bool.and_self, cond_true]
  have py := tenI_le y
  have pc := tenI_le c
  have pd := tenI_le c'
  have hp : 0 < tenI c * tenI c' := Int.mul_pos (by omega) (by omega)
  have a1 := tenI_add (i := y - c) (j := c) (by omega) h0 (by omega)
  have a2 := tenI_add (i := y - c') (j := c') (by omega) h2 (by omega)
  rw [show y - c + c = y by omega] at a1
  rw [show y - c' + c' = y by omega] at a2
  have e1 : n * tenI (y - c) * (tenI c * tenI c') = n * tenI c' * tenI y := by rw [← a1]; ac_rfl
  have e2 : n' * tenI (y - c') * (tenI c * tenI c') = n' * tenI c * tenI y := by rw [← a2]; ac_rfl
  refine (cmpI_scale (by omega)).trans ((cmpI_scale hp).symm.trans ?_)
  rw [e1, e2]
  exact cmpI_scale (by omega)
theorem num_cast {v : Val} {f g y : Int} (hn : inI v.n = true) (ho : ofB v f g = true) (hf : f = 2 ∨ f = 3) (hy : g ≤ y) (h6 : y ≤ 6) :
    (v = vnull ∧ castS v 3 y = (vnull, 0)) ∨ ∃ n c, (v = ⟨2, n, c, []⟩ ∨ v = ⟨3, n, c, []⟩) ∧ right v = true ∧ 0 ≤ c ∧ c ≤ y ∧ ((castS v 3 y = (⟨3, n * tenI (y - c), y, []⟩, 0) ∧ inI (n * tenI (y - c)) = true) ∨ (castS v 3 y).2 = 20) := by
  obtain ⟨htf, hr, hk⟩ := ofB_iff.1 ho
  obtain ⟨g0, g6, _⟩ := ty_scale htf
  have hty : tyB 3 y = true := by
    unfold tyB scB
    rw [decide_eq_true (show 0 ≤ y by omega), decide_eq_true h6]; rfl
  have key : ∀ n c, 0 ≤ c → c ≤ y → (numS n c 3 y = (⟨3, n * tenI (y - c), y, []⟩, 0) ∧ inI (n * tenI (y - c)) = true) ∨ (numS n c 3 y).2 = 20 := by
    intro n c h0 hc
    unfold numS scaE scaV
    rw [scaB_of h0 (by omega), scaB_of (show 0 ≤ y by omega) h6, sca_up hc]
    unfold ansE ansV
    rcases ho : over64 (n * tenI (y - c)) with _ | _
    · exact .inl ⟨rfl, over_in ho⟩
    · exact .inr rfl
  rcases right_forms hr with e | ⟨n, _, e⟩ | ⟨n, e⟩ | ⟨n, c, c0, c6, e⟩ | ⟨s, _, _, e⟩ | ⟨s, _, e⟩
  · left
    subst e
    exact ⟨rfl, castS_same (ofB_iff.2 ⟨hty, hr, .inl rfl⟩)⟩
  · subst e
    exact absurd (hk.resolve_left (show ¬ (1 : Int) = 0 by decide)).1 (show ¬ (1 : Int) = f by omega)
  · subst e
    obtain ⟨_, h2⟩ := hk.resolve_left (show ¬ (2 : Int) = 0 by decide)
    have h2 : 0 = g := h2
    subst h2
    refine .inr ⟨n, 0, .inl rfl, hr, by omega, hy, ?_⟩
    have e : castS ⟨2, n, 0, []⟩ 3 y = numS n 0 3 y := by
      rw [castS_go hr hty (show (2 : Int) ≠ 0 by decide) (ofB_no (show (2 : Int) ≠ 0 by decide) (show (2 : Int) ≠ 3 by decide))]; rfl
    rw [e]
    exact key n 0 (by omega) hy
  · subst e
    obtain ⟨_, h2⟩ := hk.resolve_left (show ¬ (3 : Int) = 0 by decide)
    have h2 : c = g := h2
    subst h2
    refine .inr ⟨n, c, .inr rfl, hr, c0, hy, ?_⟩
    rcases hof : ofB ⟨3, n, c, []⟩ 3 y with _ | _
    · have e : castS ⟨3, n, c, []⟩ 3 y = numS n c 3 y := by
        rw [castS_go hr hty (show (3 : Int) ≠ 0 by decide) hof]; rfl
      rw [e]
      exact key n c c0 hy
    · have hc : c = y := ((ofB_iff.1 hof).2.2.resolve_left (show ¬ (3 : Int) = 0 by decide)).2
      subst hc
      left
      rw [castS_same hof, Int.sub_self, tenI_0, Int.mul_one]
      exact ⟨rfl, hn⟩
  · subst e
    exact absurd (hk.resolve_left (show ¬ (4 : Int) = 0 by decide)).1 (show ¬ (4 : Int) = f by omega)
  · subst e
    exact absurd (hk.resolve_left (show ¬ (5 : Int) = 0 by decide)).1 (show ¬ (5 : Int) = f by omega)
def goodP (a b : Val) (p q : Val × Int) : Prop := (p.2 = 0 ∧ q.2 = 0 ∧ cmpS a b = cmpS p.1 q.1 ∧ inI p.1.n = true ∧ inI q.1.n = true ∧ p.1.s.length ≤ 1000000 ∧ q.1.s.length ≤ 1000000) ∨ (p.2 = 20 ∨ q.2 = 20)
theorem fits_law {a b : Val} {f g t u : Int} (ha : inI a.n = true) (hb : inI b.n = true) (hsa : a.s.length ≤ 1000000) (hsb : b.s.length ≤ 1000000) (hf : (fitsS f g t u).2 = true) (h1 : ofB a f g = true) (h2 : ofB b t u = true) :
    goodP a b (castS a (fitsS f g t u).1.1 (fitsS f g t u).1.2) (castS b (fitsS f g t u).1.1 (fitsS f g t u).1.2) := by
  obtain ⟨htf, hra, _⟩ := ofB_iff.1 h1
  obtain ⟨htt, hrb, _⟩ := ofB_iff.1 h2
  unfold fitsS at hf ⊢
  rw [htf, htt] at hf ⊢
  simp only [Bool.not_true, Bool.or_self, cond_false] at hf ⊢
  rcases he : (f == t && g == u) with _ | _
  · rw [he] at hf
    simp only [cond_false] at hf ⊢
    rcases hm : ((f == 2 || f == 3) && (t == 2 || t == 3)) with _ | _
    · rw [hm] at hf; cases hf
    · simp only [cond_true]
      simp only [Bool.and_eq_true, Bool.or_eq_true, beq_iff_eq] at hm
      obtain ⟨g0, g6, _⟩ := ty_scale htf
      obtain ⟨u0, u6, _⟩ := ty_scale htt
      have m1 : g ≤ maxI g u ∧ u ≤ maxI g u ∧ maxI g u ≤ 6 := by unfold maxI; split <;> omega
      generalize maxI g u = y at m1 ⊢
      obtain ⟨m1, m2, m3⟩ := m1
      have nul : ∀ m : Int, 0 ≤ y → right ⟨3, m, y, []⟩ = true := fun m h => right_dec h m3
      rcases num_cast ha h1 hm.1 m1 m3 with ⟨ea, ca⟩ | ⟨n, c, ea, ra, c0, cy, ca⟩
      · rcases num_cast hb h2 hm.2 m2 m3 with ⟨eb, cb⟩ | ⟨n', c', eb, rb, c0', cy', cb⟩
        · rw [ca, cb, ea, eb]
          exact .inl ⟨rfl, rfl, rfl, rfl, rfl, by simp [vnull], by simp [vnull]⟩
        · rcases cb with ⟨cb, ib⟩ | cb
          · rw [ca, cb, ea]
            exact .inl ⟨rfl, rfl, by rw [cmpS_null_l, cmpS_null_l], rfl, ib, by simp [vnull], by simp⟩
          · exact .inr (.inr cb)
      · have ka : a.kind = 2 ∨ a.kind = 3 := by rcases ea with e | e <;> rw [e] <;> simp
        have na : a.n = n ∧ a.scale = c := by rcases ea with e | e <;> rw [e] <;> exact ⟨rfl, rfl⟩
        rcases ca with ⟨ca, ia⟩ | ca
        · rcases num_cast hb h2 hm.2 m2 m3 with ⟨eb, cb⟩ | ⟨n', c', eb, rb, c0', cy', cb⟩
          · rw [ca, cb, eb]
            exact .inl ⟨rfl, rfl, by rw [cmpS_null_r ra ka, cmpS_null_r (nul _ (by omega)) (.inr rfl)], ia, rfl, by simp, by simp [vnull]⟩
          · have kb : b.kind = 2 ∨ b.kind = 3 := by rcases eb with e | e <;> rw [e] <;> simp
            have nb : b.n = n' ∧ b.scale = c' := by rcases eb with e | e <;> rw [e] <;> exact ⟨rfl, rfl⟩
            rcases cb with ⟨cb, ib⟩ | cb
            · rw [ca, cb]
              refine .inl ⟨rfl, rfl, ?_, ia, ib, by simp, by simp⟩
              rw [cmpS_num ra rb ka kb, cmpS_num (nul _ (by omega)) (nul _ (by omega)) (.inr rfl) (.inr rfl), na.1, na.2, nb.1, nb.2]
              rw [dcmp_up c0 cy c0' cy' m3]
            · exact .inr (.inr cb)
        · exact .inr (.inl ca)
  · simp only [cond_true]
    simp only [Bool.and_eq_true, beq_iff_eq] at he
    obtain ⟨rfl, rfl⟩ := he
    rw [castS_same h1, castS_same h2]
    exact .inl ⟨rfl, rfl, rfl, ha, hb, hsa, hsb⟩
theorem vcmpO_eq {R : Type} {a b : Val} {K : Int × Bool → Option R} (ha : inI a.n = true) (hb : inI b.n = true) (hs : a.s.length ≤ 1000000) (ht : b.s.length ≤ 1000000) : vcmpO a.kind a.n a.scale a.s b.kind b.n b.scale b.s K = K (cmpS a b) := by
  unfold vcmpO
  exact cond_t (by rw [ha, hb, decide_eq_true hs, decide_eq_true ht]; rfl)
theorem cf_end {a b : Val} {p q : Val × Int} (ha : inI a.n = true) (hb : inI b.n = true) (hs : a.s.length ≤ 1000000) (ht : b.s.length ≤ 1000000) (h : goodP a b p q) : cfEnd a.kind a.n a.scale a.s b.kind b.n b.scale b.s p q = bP true := by
  unfold cfEnd
  by_cases h0 : p.2 = 0 ∧ q.2 = 0
  · rw [h0.1, h0.2]
    rcases h with ⟨_, _, e, h1, h2, h3, h4⟩ | h
    · simp only [beq_self_eq_true, Bool.not_true, Bool.or_self, cond_false]
      rw [vcmpO_eq ha hb hs ht, vcmpO_eq h1 h2 h3 h4, e]
      simp [bP]
    · rcases h with h | h
      · rw [h0.1] at h; cases h
      · rw [h0.2] at h; cases h
  · rcases h with ⟨h1, h2, _⟩ | h
    · exact absurd ⟨h1, h2⟩ h0
    · rcases h with h | h <;> rw [h]
      · rfl
      · rw [show (!(p.2 == 0) || !((20 : Int) == 0)) = true by cases p.2 == 0 <;> rfl, show (p.2 == 20 || (20 : Int) == 20) = true by cases p.2 == 20 <;> rfl]; rfl
theorem rel_two (M : Mem) (a b : Val) : RelD M (.agg [.int .i64 a.kind, .int .i64 a.n, .int .i64 a.scale, .str a.s, .int .i64 b.kind, .int .i64 b.n, .int .i64 b.scale, .str b.s]) (.agg #[.int .i64 a.kind, .int .i64 a.n, .int .i64 a.scale, .string ⟨a.s.toArray⟩, .int .i64 b.kind, .int .i64 b.n, .int .i64 b.scale, .string ⟨b.s.toArray⟩]) := by
  simp only [RelD, RelL]
  exact ⟨_, rfl, _, _, rfl, rfl, rfl, _, _, rfl, rfl, rfl, _, _, rfl, rfl, rfl, _, _, rfl, rfl, rfl, _, _, rfl, rfl, rfl, _, _, rfl, rfl, rfl, _, _, rfl, rfl, rfl, _, _, rfl, rfl, rfl, rfl⟩
theorem castFitsLaw (W : World) (a b : Val) (f g t u : Int) (ha : inI a.n = true) (hb : inI b.n = true) (hW : Wc W) :
    Calls Tryd.prog 5 #[.agg #[.int .i64 a.kind, .int .i64 a.n, .int .i64 a.scale, .string ⟨a.s.toArray⟩, .int .i64 b.kind, .int .i64 b.n, .int .i64 b.scale, .string ⟨b.s.toArray⟩], .agg #[.int .i64 f, .int .i64 g], .agg #[.int .i64 t, .int .i64 u]] W fun e W' => e = .returned (.bool true) ∧ Below W.heap.size W W' := by
  refine law_run (vs := [.agg #[.int .i64 a.kind, .int .i64 a.n, .int .i64 a.scale, .string ⟨a.s.toArray⟩, .int .i64 b.kind, .int .i64 b.n, .int .i64 b.scale, .string ⟨b.s.toArray⟩], .agg #[.int .i64 f, .int .i64 g], .agg #[.int .i64 t, .int .i64 u]]) (xs := [.agg [.int .i64 a.kind, .int .i64 a.n, .int .i64 a.scale, .str a.s, .int .i64 b.kind, .int .i64 b.n, .int .i64 b.scale, .str b.s], .agg [.int .i64 f, .int .i64 g], .agg [.int .i64 t, .int .i64 u]])
    (fuel := 0) (h := ⟨[], []⟩) wokc ok_lCf Tryd.func5 hW (wc_size hW) ⟨_, _, rfl, rel_two _ _ _, _, _, rfl, rel_typ _ _ _, _, _, rfl, rel_typ _ _ _, rfl⟩ ?_
  rw [cf_raw]
  by_cases hl : 500 < maxI (a.s.length : Int) (b.s.length : Int)
  · rw [cond_t (decide_eq_true hl)]; rfl
  · have hs : a.s.length ≤ 500 ∧ b.s.length ≤ 500 := by
      unfold maxI at hl
      split at hl <;> omega
    rw [cond_f (decide_eq_false hl)]
    simp only [beq_self_eq_true, Bool.and_self, Bool.not_true, Bool.or_self, cond_false]
    rcases hf : (fitsS f g t u).2 with _ | _
    · rfl
    · simp only [Bool.not_true, Bool.not_false, cond_true]
      rw [ofO_eq (by omega)]
      rcases h1 : ofB a f g with _ | _
      · rfl
      · simp only [Bool.not_true, Bool.not_false, cond_true]
        rw [ofO_eq (by omega)]
        rcases h2 : ofB b t u with _ | _
        · rfl
        · simp only [Bool.not_true, cond_false]
          rw [castO_eq ha (by omega), castO_eq hb (by omega)]
          exact cf_end ha hb (by omega) (by omega) (fits_law ha hb (by omega) (by omega) hf h1 h2)
end Go.Proofs.YtllpobcecingiaaDoor
