/-
  Plain words: which values are right; no program in sight.
-/
import Derived.Test.YtelckbphbkebkaaGreatDoorBase
import Derived.Lib.ValidLaws
set_option linter.unusedVariables false
set_option linter.unusedSimpArgs false
namespace Go.Proofs.YtelckbphbkebkaaGreatDoor

def scaleOk (k : Int) : Bool := decide (0 ≤ k) && decide (k ≤ 6)
/-- layer 3: a valid value -/
def right (x : Val) : Bool :=
  if x.kind = 0 then decide (x.n = 0 ∧ x.scale = 0 ∧ x.s = [])
  else if x.kind = 1 then decide ((x.n = 0 ∨ x.n = 1) ∧ x.scale = 0 ∧ x.s = [])
  else if x.kind = 2 then decide (x.scale = 0 ∧ x.s = [])
  else if x.kind = 3 then decide (x.s = [] ∧ 0 ≤ x.scale ∧ x.scale ≤ 6)
  else if x.kind = 4 then decide (x.n = 0 ∧ x.scale = 0 ∧ x.s.length ≤ 200) && Lib.validD x.s
  else if x.kind = 5 then decide (x.n = 0 ∧ x.scale = 0 ∧ x.s.length ≤ 200)
  else false
def vnull : Val := ⟨0, 0, 0, []⟩
def plain (x : Val) : Val := if right x then x else vnull
theorem right_null : right vnull = true := by decide
theorem right_plain (x : Val) : right (plain x) = true := by
  unfold plain
  split
  · assumption
  · exact right_null
theorem plain_right {x : Val} (h : right x = true) : plain x = x := if_pos h
theorem plain_wrong {x : Val} (h : right x = false) : plain x = vnull := if_neg (by simp [h])

/-! ## one step of UTF-8, as the reference has it -/
def cont (d : UInt8) : Prop := 128 ≤ d.toNat ∧ d.toNat ≤ 191
instance (d : UInt8) : Decidable (cont d) := inferInstanceAs (Decidable (_ ∧ _))
/-- the number that a lead byte and the first m bytes behind it spell -/
def spell (x0 : Int) (t : List UInt8) (m : Nat) : Int := (t.take m).foldl (fun x d => 64 * x + (d.toNat : Int) - 128) x0
def badRune (least x : Int) : Prop := x < least ∨ 1114111 < x ∨ (55296 ≤ x ∧ x < 57344)
instance (least x : Int) : Decidable (badRune least x) := inferInstanceAs (Decidable (_ ∨ _))
theorem spell_zero (x0 : Int) (t : List UInt8) : spell x0 t 0 = x0 := by simp [spell]
theorem spell_succ (x0 : Int) (t : List UInt8) (m : Nat) (d : UInt8) (h : t[m]? = some d) : spell x0 t (m + 1) = 64 * spell x0 t m + (d.toNat : Int) - 128 := by
  have hm : m < t.length := by
    rcases Nat.lt_or_ge m t.length with h' | h'
    · exact h'
    · rw [List.getElem?_eq_none h'] at h; cases h
  have hd : t[m] = d := by rw [List.getElem?_eq_getElem hm] at h; injection h
  unfold spell
  rw [List.take_succ_eq_append_getElem hm, List.foldl_append, hd]
  rfl
theorem validD_of_decode {l : List UInt8} (hne : l ≠ []) {p : Prop} [Decidable p] {x m : Nat} (hx : ¬ p → x ≠ 65533 ∨ 2 ≤ m) (h : Lib.decodeL l = if p then (65533, 1) else (x, m)) :
    Lib.validD l = if p then false else Lib.validD (l.drop m) := by
  rw [Lib.validD_step _ hne, h]
  by_cases hp : p
  · simp [hp]
  · have := hx hp
    rw [if_neg hp, if_neg hp, if_neg (by simp only; omega)]
theorem spell1 (x0 : Int) (d1 : UInt8) (t : List UInt8) : spell x0 (d1 :: t) 1 = 64 * x0 + (d1.toNat : Int) - 128 := by simp [spell]
theorem spell2 (x0 : Int) (d1 d2 : UInt8) (t : List UInt8) : spell x0 (d1 :: d2 :: t) 2 = 64 * (64 * x0 + (d1.toNat : Int) - 128) + (d2.toNat : Int) - 128 := by simp [spell]
theorem spell3 (x0 : Int) (d1 d2 d3 : UInt8) (t : List UInt8) : spell x0 (d1 :: d2 :: d3 :: t) 3 = 64 * (64 * (64 * x0 + (d1.toNat : Int) - 128) + (d2.toNat : Int) - 128) + (d3.toNat : Int) - 128 := by simp [spell]

theorem spell_bound {x0 : Int} (h0 : 0 ≤ x0) (h1 : x0 < 32) (t : List UInt8) (m : Nat) (hm : m ≤ 3) (hall : ∀ i d, i < m → t[i]? = some d → cont d) : 0 ≤ spell x0 t m ∧ spell x0 t m < 4294967296 := by
  have go : ∀ m, (∀ i d, i < m → t[i]? = some d → cont d) → 0 ≤ spell x0 t m ∧ spell x0 t m < 32 * 64 ^ m := by
    intro m
    induction m with
    | zero => intro _; rw [spell_zero]; omega
    | succ m ih =>
      intro hall
      have := ih (fun i d hi hd => hall i d (by omega) hd)
      rcases hg : t[m]? with _ | d
      · have : spell x0 t (m + 1) = spell x0 t m := by
          unfold spell
          rw [List.getElem?_eq_none_iff] at hg
          rw [List.take_of_length_le (by omega), List.take_of_length_le hg]
        rw [this, Int.pow_succ]
        omega
      · have hc := hall m d (by omega) hg
        unfold cont at hc
        rw [spell_succ _ _ _ _ hg, Int.pow_succ]
        omega
  have := go m hall
  have h3 : m = 0 ∨ m = 1 ∨ m = 2 ∨ m = 3 := by omega
  rcases h3 with rfl | rfl | rfl | rfl <;> simp only [Int.reducePow, Int.reduceMul] at this <;> omega

/-- a lead byte's class: how many bytes follow, the least number, the byte's own part -/
structure Lead (c : UInt8) (n : Nat) (least x0 : Int) : Prop where
  cases_ : (n = 1 ∧ least = 128 ∧ x0 = c.toNat - 192 ∧ 192 ≤ c.toNat ∧ c.toNat < 224) ∨ (n = 2 ∧ least = 2048 ∧ x0 = c.toNat - 224 ∧ 224 ≤ c.toNat ∧ c.toNat < 240) ∨
    (n = 3 ∧ least = 65536 ∧ x0 = c.toNat - 240 ∧ 240 ≤ c.toNat ∧ c.toNat < 248)

theorem decode_bad {c : UInt8} {t : List UInt8} (hc : 128 ≤ c.toNat) (h : Lib.decodeL (c :: t) = (65533, 1)) : Lib.validD (c :: t) = false := by
  rw [Lib.validD_step _ (by simp), h]; simp
theorem utf_wrong {c : UInt8} (t : List UInt8) (h : (128 ≤ c.toNat ∧ c.toNat < 192) ∨ 248 ≤ c.toNat) : Lib.validD (c :: t) = false := by
  have hc := c.toNat_lt
  refine decode_bad (by omega) ?_
  rw [Lib.decodeL_N]
  simp only [List.getD_cons_zero]
  exact Lib.decodeN_bad _ _ _ _ _ (by omega)
theorem utf_short {c : UInt8} {t : List UInt8} {n : Nat} {least x0 : Int} (h : Lead c n least x0) (ht : t.length < n) : Lib.validD (c :: t) = false := by
  refine decode_bad (by have := h.cases_; omega) ?_
  rw [Lib.decodeL_N]
  simp only [List.getD_cons_zero, List.length_cons]
  unfold Lib.decodeN
  rcases h.cases_ with ⟨rfl, _, _, h1, h2⟩ | ⟨rfl, _, _, h1, h2⟩ | ⟨rfl, _, _, h1, h2⟩ <;> (repeat' split) <;> first | (exfalso; omega) | rfl
theorem utf_stray {c : UInt8} {t : List UInt8} {n : Nat} {least x0 : Int} (h : Lead c n least x0) {i : Nat} (hi : i < n) {d : UInt8} (hd : t[i]? = some d) (hc : ¬ cont d) : Lib.validD (c :: t) = false := by
  refine decode_bad (by have := h.cases_; omega) ?_
  rw [Lib.decodeL_N]
  have hg : (c :: t).getD (i + 1) 0 = d := by simp [List.getD, hd]
  have hdl := d.toNat_lt
  have hq : d.toNat / 64 ≠ 2 := by unfold cont at hc; omega
  have e0 : (c :: t).getD 0 0 = c := rfl
  rw [e0]
  unfold Lib.decodeN
  have hcl := h.cases_
  rcases i with _ | _ | _ | i
  · simp only [Nat.zero_add] at hg
    rw [hg]
    (repeat' split) <;> first | (exfalso; omega) | rfl
  · simp only [Nat.zero_add, Nat.reduceAdd] at hg
    rw [hg]
    (repeat' split) <;> first | (exfalso; omega) | rfl
  · simp only [Nat.zero_add, Nat.reduceAdd] at hg
    rw [hg]
    (repeat' split) <;> first | (exfalso; omega) | rfl
  · omega
theorem utf_step {c : UInt8} {t : List UInt8} {n : Nat} {least x0 : Int} (h : Lead c n least x0) (ht : n ≤ t.length) (hall : ∀ i d, i < n → t[i]? = some d → cont d) :
    Lib.validD (c :: t) = if badRune least (spell x0 t n) then false else Lib.validD (t.drop n) := by
  have hcl := c.toNat_lt
  rcases h.cases_ with ⟨rfl, rfl, rfl, h1, h2⟩ | ⟨rfl, rfl, rfl, h1, h2⟩ | ⟨rfl, rfl, rfl, h1, h2⟩
  · match t, ht with
    | d1 :: t, _ =>
      have c1 : cont d1 := hall 0 d1 (by omega) rfl
      unfold cont at c1
      rw [spell1]
      refine (validD_of_decode (p := badRune 128 (64 * ((c.toNat : Int) - 192) + (d1.toNat : Int) - 128)) (x := c.toNat % 32 * 64 + d1.toNat % 64) (m := 2) (by simp) (by omega) ?_)
      rw [Lib.decodeL_N]
      simp only [List.getD_cons_zero, List.getD_cons_succ, List.length_cons]
      split <;> rename_i hp <;> unfold badRune at hp <;> unfold Lib.decodeN <;> (repeat' split) <;> first | (exfalso; omega) | rfl
  · match t, ht with
    | d1 :: d2 :: t, _ =>
      have c1 : cont d1 := hall 0 d1 (by omega) rfl
      have c2 : cont d2 := hall 1 d2 (by omega) rfl
      unfold cont at c1 c2
      rw [spell2]
      refine (validD_of_decode (p := badRune 2048 (64 * (64 * ((c.toNat : Int) - 224) + (d1.toNat : Int) - 128) + (d2.toNat : Int) - 128)) (x := c.toNat % 16 * 4096 + d1.toNat % 64 * 64 + d2.toNat % 64) (m := 3) (by simp) (by omega) ?_)
      rw [Lib.decodeL_N]
      simp only [List.getD_cons_zero, List.getD_cons_succ, List.length_cons]
      split <;> rename_i hp <;> unfold badRune at hp <;> unfold Lib.decodeN <;> (repeat' split) <;> first | (exfalso; omega) | rfl
  · match t, ht with
    | d1 :: d2 :: d3 :: t, _ =>
      have c1 : cont d1 := hall 0 d1 (by omega) rfl
      have c2 : cont d2 := hall 1 d2 (by omega) rfl
      have c3 : cont d3 := hall 2 d3 (by omega) rfl
      unfold cont at c1 c2 c3
      rw [spell3]
      refine (validD_of_decode (p := badRune 65536 (64 * (64 * (64 * ((c.toNat : Int) - 240) + (d1.toNat : Int) - 128) + (d2.toNat : Int) - 128) + (d3.toNat : Int) - 128)) (x := c.toNat % 8 * 262144 + d1.toNat % 64 * 4096 + d2.toNat % 64 * 64 + d3.toNat % 64) (m := 4) (by simp) (by omega) ?_)
      rw [Lib.decodeL_N]
      simp only [List.getD_cons_zero, List.getD_cons_succ, List.length_cons]
      split <;> rename_i hp <;> unfold badRune at hp <;> unfold Lib.decodeN <;> (repeat' split) <;> first | (exfalso; omega) | rfl
end Go.Proofs.YtelckbphbkebkaaGreatDoor
