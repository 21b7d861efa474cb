/-
  Plain words: encoded values stand as the values do.
-/
import Derived.Test.YtclhnfalebiieaaDoorKga
import Derived.Test.YtclhnfalebiieaaDoorKab
set_option linter.unusedVariables false
set_option linter.unusedSimpArgs false
namespace Go.Proofs.YtclhnfalebiieaaDoor
open Go.RowKit

/-- two lists that differ at a place, where they compare as z says -/
def Dif (a b : List UInt8) (z : Int) : Prop := ∃ (p : List UInt8) (c d : UInt8) (t u : List UInt8), a = p ++ c :: t ∧ b = p ++ d :: u ∧ c ≠ d ∧ z = numI (c.toNat : Int) (d.toNat : Int)
theorem Dif.append {a b : List UInt8} {z : Int} (h : Dif a b z) (x y : List UInt8) : Dif (a ++ x) (b ++ y) z := by
  obtain ⟨p, c, d, t, u, rfl, rfl, h, hz⟩ := h
  exact ⟨p, c, d, t ++ x, u ++ y, by simp, by simp, h, hz⟩
theorem Dif.pre {a b : List UInt8} {z : Int} (h : Dif a b z) (q : List UInt8) : Dif (q ++ a) (q ++ b) z := by
  obtain ⟨p, c, d, t, u, rfl, rfl, h, hz⟩ := h
  exact ⟨q ++ p, c, d, t, u, by simp, by simp, h, hz⟩
theorem u8_ne_nat {c d : UInt8} (h : c ≠ d) : (c.toNat : Int) ≠ (d.toNat : Int) := fun e => h (UInt8.toNat_inj.1 (by omega))
theorem numI_ne {a b : Int} (h : a ≠ b) : numI a b ≠ 0 := by
  rcases Int.lt_trichotomy a b with h1 | h1 | h1
  · rw [numI_lt h1]; decide
  · exact absurd h1 h
  · rw [numI_gt h1]; decide
theorem Dif.ne {a b : List UInt8} {z : Int} (h : Dif a b z) : z ≠ 0 := by
  obtain ⟨p, c, d, t, u, rfl, rfl, h, rfl⟩ := h
  exact numI_ne (u8_ne_nat h)
theorem txt_pre : ∀ (p a b : List UInt8), txtL (p ++ a) (p ++ b) = txtL a b
  | [], _, _ => rfl
  | c :: p, a, b => by
    rw [List.cons_append, List.cons_append, txtL, beq_self_eq_true, cond_true, txt_pre p a b]
theorem Dif.txt {a b : List UInt8} {z : Int} (h : Dif a b z) : txtL a b = z := by
  obtain ⟨p, c, d, t, u, rfl, rfl, h, rfl⟩ := h
  rw [txt_pre, txtL, cond_f (by simpa using h)]
theorem txt_self (a : List UInt8) : txtL a a = 0 := by
  have := txt_pre a [] []
  rw [List.append_nil] at this
  rw [this]; rfl
theorem Dif.take {a b : List UInt8} {z : Int} (h : Dif a b z) {k : Nat} (hk : k = min a.length b.length) : a.take k ≠ b.take k := by
  obtain ⟨p, c, d, t, u, rfl, rfl, h, rfl⟩ := h
  intro e
  have hlt : p.length < k := by rw [hk]; simp only [List.length_append, List.length_cons]; omega
  have e1 := congrArg (fun l : List UInt8 => l[p.length]?) e
  simp only [List.getElem?_take, if_pos hlt] at e1
  rw [List.getElem?_append_right (Nat.le_refl _), List.getElem?_append_right (Nat.le_refl _), Nat.sub_self] at e1
  simp only [List.getElem?_cons_zero, Option.some.injEq] at e1
  exact h e1
/-! ## numbers -/
theorem be_cons_from : ∀ (l : List UInt8) (u : Nat), l.foldl (fun u c => u * 256 + c.toNat) u = u * 256 ^ l.length + be l := by
  intro l
  induction l with
  | nil => intro u; simp [be]
  | cons c l ih =>
    intro u
    have h1 := ih (u * 256 + c.toNat)
    have h2 := ih c.toNat
    have e : be (c :: l) = l.foldl (fun u c => u * 256 + c.toNat) c.toNat := by simp [be]
    rw [List.foldl_cons, h1, e, h2, List.length_cons, Nat.pow_succ, Nat.add_mul, Nat.mul_assoc, Nat.mul_comm 256 (256 ^ l.length)]
    omega
theorem be_cons (c : UInt8) (l : List UInt8) : be (c :: l) = c.toNat * 256 ^ l.length + be l := by
  have := be_cons_from l c.toNat
  rw [← this]; simp [be]
theorem be_dif : ∀ (n : Nat) (a b : List UInt8), a.length = n → b.length = n → a = b ∨ Dif a b (numI (be a : Int) (be b : Int)) := by
  intro n
  induction n with
  | zero => intro a b ha hb; left; rw [List.length_eq_zero_iff.1 ha, List.length_eq_zero_iff.1 hb]
  | succ n ih =>
    intro a b ha hb
    match a, b, ha, hb with
    | c :: t, d :: u, ha, hb =>
      simp only [List.length_cons, Nat.add_right_cancel_iff] at ha hb
      have l1 := be_lt n t ha
      have l2 := be_lt n u hb
      rw [be_cons, be_cons, ha, hb]
      by_cases h : c = d
      · subst h
        rcases ih t u ha hb with rfl | hd
        · left; rfl
        · right
          have := hd.pre [c]
          have e : numI ((c.toNat * 256 ^ n + be t : Nat) : Int) ((c.toNat * 256 ^ n + be u : Nat) : Int) = numI (be t : Int) (be u : Int) := by
            generalize c.toNat * 256 ^ n = q
            rcases Nat.lt_trichotomy (be t) (be u) with h | h | h
            · rw [numI_lt (by omega), numI_lt (by omega)]
            · rw [h, numI_self, numI_self]
            · rw [numI_gt (by omega), numI_gt (by omega)]
          rw [e]
          exact this
      · right
        refine ⟨[], c, d, t, u, rfl, rfl, h, ?_⟩
        have hne : c.toNat ≠ d.toNat := fun e => h (UInt8.toNat_inj.1 e)
        rcases Nat.lt_or_ge c.toNat d.toNat with h1 | h1
        · have : (c.toNat + 1) * 256 ^ n ≤ d.toNat * 256 ^ n := Nat.mul_le_mul_right _ h1
          rw [Nat.add_mul] at this
          rw [numI_lt (by omega), numI_lt (by omega)]
        · have : (d.toNat + 1) * 256 ^ n ≤ c.toNat * 256 ^ n := Nat.mul_le_mul_right _ (by omega)
          rw [Nat.add_mul] at this
          rw [numI_gt (by omega), numI_gt (by omega)]
theorem be_be8 (n : Int) : be (be8 n) = flipN n := by
  have := deTo_beTo (flipN n) (flipN_lt n) []
  rw [deTo_be, List.append_nil, List.take_of_length_le (by rw [beTo_length]; exact Nat.le_refl _)] at this
  exact this
theorem be8_dif {m n : Int} (hm : -9223372036854775808 ≤ m ∧ m ≤ 9223372036854775807) (hn : -9223372036854775808 ≤ n ∧ n ≤ 9223372036854775807) : (m = n ∧ numI m n = 0) ∨ Dif (be8 m) (be8 n) (numI m n) := by
  have e : numI (flipN m : Int) (flipN n : Int) = numI m n := by
    have h1 : (flipN m : Int) = m + 9223372036854775808 := by unfold flipN; omega
    have h2 : (flipN n : Int) = n + 9223372036854775808 := by unfold flipN; omega
    rw [h1, h2]
    rcases Int.lt_trichotomy m n with h | h | h
    · rw [numI_lt (by omega), numI_lt h]
    · rw [h, numI_self, numI_self]
    · rw [numI_gt (by omega), numI_gt h]
  rcases be_dif 8 (be8 m) (be8 n) (be8_length m) (be8_length n) with h | h
  · left
    have h3 := congrArg be h
    rw [be_be8, be_be8] at h3
    have : m = n := by unfold flipN at h3; omega
    exact ⟨this, by rw [this, numI_self]⟩
  · right
    rw [be_be8, be_be8, e] at h
    exact h
/-! ## texts -/
theorem esc_dif : ∀ (s u : List UInt8), (s = u ∧ txtL s u = 0) ∨ Dif (escTo s ++ [0, 1]) (escTo u ++ [0, 1]) (txtL s u)
  | [], [] => .inl ⟨rfl, rfl⟩
  | [], b :: y => by
    right
    by_cases h : b = 0
    · subst h
      exact ⟨[0], 1, 255, [], escTo y ++ [0, 1], by simp [escTo], by simp [escTo], by decide, rfl⟩
    · refine ⟨[], 0, b, [1], escTo y ++ [0, 1], by simp [escTo], by simp [escTo, h], fun e => h e.symm, ?_⟩
      have hb : b.toNat ≠ 0 := fun e => h (UInt8.toNat_inj.1 (by simpa using e))
      show (-1 : Int) = _
      rw [numI_lt]
      simp only [UInt8.reduceToNat]
      omega
  | a :: x, [] => by
    right
    by_cases h : a = 0
    · subst h
      exact ⟨[0], 255, 1, escTo x ++ [0, 1], [], by simp [escTo], by simp [escTo], by decide, rfl⟩
    · refine ⟨[], a, 0, escTo x ++ [0, 1], [1], by simp [escTo, h], by simp [escTo], h, ?_⟩
      have hb : a.toNat ≠ 0 := fun e => h (UInt8.toNat_inj.1 (by simpa using e))
      show (1 : Int) = _
      rw [numI_gt]
      simp only [UInt8.reduceToNat]
      omega
  | a :: x, b :: y => by
    by_cases h : a = b
    · subst h
      have e : txtL (a :: x) (a :: y) = txtL x y := by rw [txtL, beq_self_eq_true, cond_true]
      rw [e]
      rcases esc_dif x y with ⟨rfl, h0⟩ | hd
      · exact .inl ⟨rfl, h0⟩
      · right
        have := hd.pre (if a = 0 then [0, 255] else [a])
        rw [escTo, escTo, List.append_assoc, List.append_assoc]
        exact this
    · right
      rw [txtL, cond_f (by simpa using h)]
      by_cases h0 : a = 0
      · subst h0
        have hb : b ≠ 0 := fun e => h e.symm
        exact ⟨[], 0, b, _, _, by simp [escTo]; rfl, by simp [escTo, hb]; rfl, h, rfl⟩
      · by_cases h1 : b = 0
        · subst h1
          exact ⟨[], a, 0, _, _, by simp [escTo, h0]; rfl, by simp [escTo]; rfl, h, rfl⟩
        · exact ⟨[], a, b, _, _, by simp [escTo, h0]; rfl, by simp [escTo, h1]; rfl, h, rfl⟩
/-! ## values -/
/-- the order of values of one kind and scale, or Null -/
def ordV (x y : Val) : Int := if x.kind ≠ y.kind then numI x.kind y.kind else if x.kind = 0 then 0 else if x.kind = 1 ∨ x.kind = 2 ∨ x.kind = 3 then numI x.n y.n else txtL x.s y.s
/-- values that may stand beside each other -/
def mates (x y : Val) : Prop := x.kind = 0 ∨ y.kind = 0 ∨ (x.kind = y.kind ∧ x.scale = y.scale)
theorem right_kind {x : Val} (h : right x = true) : 0 ≤ x.kind ∧ x.kind ≤ 5 := by
  unfold right at h
  (repeat' split at h) <;> first | (cases h; done) | omega
theorem enc_kind {x : Val} (h : right x = true) : enc x = UInt8.ofNat x.kind.toNat :: (if x.kind = 1 then [UInt8.ofNat x.n.toNat] else if x.kind = 2 then be8 x.n else if x.kind = 3 then UInt8.ofNat x.scale.toNat :: be8 x.n
    else if x.kind = 4 ∨ x.kind = 5 then escTo x.s ++ [0, 1] else []) := by
  unfold enc
  rw [plain_right h]; rfl
theorem byte_nat {k : Int} (h0 : 0 ≤ k) (h1 : k ≤ 255) : ((UInt8.ofNat k.toNat).toNat : Int) = k := by
  rw [UInt8.toNat_ofNat']; omega
theorem enc_dif {x y : Val} (hx : right x = true) (hy : right y = true) (hx64 : x.in64) (hy64 : y.in64) (hm : mates x y) : (x = y ∧ ordV x y = 0) ∨ Dif (enc x) (enc y) (ordV x y) := by
  have kx := right_kind hx
  have ky := right_kind hy
  have ex := enc_kind hx
  have ey := enc_kind hy
  by_cases hk : x.kind = y.kind
  · have hs : x.kind ≠ 0 → x.scale = y.scale := by
      intro h0
      rcases hm with h | h | h
      · exact absurd h h0
      · rw [← hk] at h; exact absurd h h0
      · exact h.2
    unfold right at hx hy
    rw [← hk] at hy ey
    unfold ordV
    rw [if_neg (by simpa using hk)]
    by_cases h0 : x.kind = 0
    · left
      rw [if_pos h0] at hx hy ⊢
      simp only [decide_eq_true_eq] at hx hy
      exact ⟨Val.ext' hk (by omega) (by omega) (by rw [hx.2.2, hy.2.2]), rfl⟩
    · rw [if_neg h0] at hx hy ⊢
      have hs := hs h0
      by_cases h1 : x.kind = 1
      · rw [if_pos (.inl h1)]
        rw [if_pos h1] at hx hy
        simp only [decide_eq_true_eq] at hx hy
        simp only [h1, if_true] at ex ey
        by_cases hn : x.n = y.n
        · left
          exact ⟨Val.ext' hk hn hs (by rw [hx.2.2, hy.2.2]), by rw [hn, numI_self]⟩
        · right
          rw [ex, ey]
          have b1 := byte_nat (k := x.n) (by omega) (by omega)
          have b2 := byte_nat (k := y.n) (by omega) (by omega)
          exact ⟨[_], UInt8.ofNat x.n.toNat, UInt8.ofNat y.n.toNat, [], [], rfl, rfl, fun e => hn (by rw [← b1, ← b2, e]), by rw [b1, b2]⟩
      · rw [if_neg h1] at hx hy
        by_cases h2 : x.kind = 2
        · rw [if_pos (.inr (.inl h2))]
          rw [if_pos h2] at hx hy
          simp only [decide_eq_true_eq] at hx hy
          simp only [h2, if_true, show ¬ (2 : Int) = 1 by decide, if_false] at ex ey
          rcases be8_dif hx64 hy64 with ⟨h, hz⟩ | h
          · exact .inl ⟨Val.ext' hk h hs (by rw [hx.2, hy.2]), hz⟩
          · right
            rw [ex, ey]
            exact h.pre [_]
        · rw [if_neg h2] at hx hy
          by_cases h3 : x.kind = 3
          · rw [if_pos (.inr (.inr h3))]
            rw [if_pos h3] at hx hy
            simp only [decide_eq_true_eq] at hx hy
            simp only [h3, if_true, show ¬ (3 : Int) = 1 by decide, show ¬ (3 : Int) = 2 by decide, if_false] at ex ey
            rcases be8_dif hx64 hy64 with ⟨h, hz⟩ | h
            · exact .inl ⟨Val.ext' hk h hs (by rw [hx.1, hy.1]), hz⟩
            · right
              rw [ex, ey, hs]
              exact h.pre [_, _]
          · rw [if_neg h3] at hx hy
            have h45 : x.kind = 4 ∨ x.kind = 5 := by omega
            rw [if_neg (by omega)]
            simp only [h1, h2, h3, if_false, if_pos h45] at ex ey
            have hnn : x.n = y.n := by
              rcases h45 with h | h <;> simp only [h, if_true, show ¬ (5 : Int) = 4 by decide, if_false, Bool.and_eq_true, decide_eq_true_eq] at hx hy <;> omega
            rcases esc_dif x.s y.s with ⟨h, hz⟩ | h
            · exact .inl ⟨Val.ext' hk hnn hs h, hz⟩
            · right
              rw [ex, ey]
              exact h.pre [_]
  · right
    unfold ordV
    rw [if_pos hk, ex, ey]
    have b1 := byte_nat (k := x.kind) (by omega) (by omega)
    have b2 := byte_nat (k := y.kind) (by omega) (by omega)
    exact ⟨[], _, _, _, _, rfl, rfl, fun e => hk (by rw [← b1, ← b2, e]), by rw [b1, b2]⟩
/-- how lists of values compare: as the first that differ -/
def cL : List Val → List Val → Int
  | x :: a, y :: b => if ordV x y = 0 then cL a b else ordV x y
  | _, _ => 0
def Good (x y : Val) : Prop := right x = true ∧ right y = true ∧ x.in64 ∧ y.in64 ∧ mates x y
theorem encs_dif : ∀ (a b : List Val), a.length = b.length → (∀ (i : Nat) (x y : Val), a[i]? = some x → b[i]? = some y → Good x y) → (a = b ∧ cL a b = 0) ∨ Dif (encs a) (encs b) (cL a b)
  | [], [], _, _ => .inl ⟨rfl, rfl⟩
  | x :: a, y :: b, hl, h => by
    obtain ⟨h1, h2, h3, h4, h5⟩ := h 0 x y rfl rfl
    rw [encs_cons, encs_cons, cL]
    have ih := encs_dif a b (by simpa using hl) (fun i x y hx hy => h (i + 1) x y (by simpa using hx) (by simpa using hy))
    rcases enc_dif h1 h2 h3 h4 h5 with ⟨rfl, h0⟩ | hd
    · rw [if_pos h0]
      rcases ih with ⟨rfl, hz⟩ | hd
      · exact .inl ⟨rfl, hz⟩
      · exact .inr (hd.pre _)
    · rw [if_neg hd.ne]
      exact .inr (hd.append _ _)
theorem cL_snoc : ∀ (a b : List Val) (x y : Val), a.length = b.length → cL (a ++ [x]) (b ++ [y]) = if cL a b = 0 then ordV x y else cL a b
  | [], [], x, y, _ => by
    show (if ordV x y = 0 then 0 else ordV x y) = if (0 : Int) = 0 then ordV x y else 0
    rw [if_pos rfl]
    split
    · rename_i h; exact h.symm
    · rfl
  | z :: a, w :: b, x, y, hl => by
    rw [List.cons_append, List.cons_append, cL, cL, cL_snoc a b x y (by simpa using hl)]
    by_cases h : ordV z w = 0
    · rw [if_pos h, if_pos h]
    · rw [if_neg h, if_neg h, if_neg h]
end Go.Proofs.YtclhnfalebiieaaDoor
