/-
  Trees of keys and values by their depth, in plain Lean: put, remove, and what they do to the contents; no statement of the seat.
-/
import Derived.WalkKit
set_option linter.unusedVariables false
set_option linter.unusedSimpArgs false
namespace Go.Proofs.Ytmacjkiamejcnaa
open Go.RowKit

abbrev Ky := List UInt8
theorem kl_irr : ∀ (a : Ky), Op.bytesLess a a = false
  | [] => rfl
  | a :: x => by simp [Op.bytesLess, kl_irr x, UInt8.lt_irrefl]
theorem kl_trans : ∀ {a b c : Ky}, Op.bytesLess a b = true → Op.bytesLess b c = true → Op.bytesLess a c = true
  | [], [], _, h, _ => by simp [Op.bytesLess] at h
  | [], _ :: _, [], _, k => by simp [Op.bytesLess] at k
  | [], _ :: _, _ :: _, _, _ => by simp [Op.bytesLess]
  | _ :: _, [], _, h, _ => by simp [Op.bytesLess] at h
  | _ :: _, _ :: _, [], _, k => by simp [Op.bytesLess] at k
  | a :: x, b :: y, c :: z, h, k => by
    simp only [Op.bytesLess, Bool.or_eq_true, Bool.and_eq_true, decide_eq_true_eq, beq_iff_eq] at h k ⊢
    rcases h with h | ⟨rfl, h⟩
    · rcases k with k | ⟨rfl, k⟩
      · exact .inl (UInt8.lt_trans h k)
      · exact .inl h
    · rcases k with k | ⟨rfl, k⟩
      · exact .inl k
      · exact .inr ⟨rfl, kl_trans h k⟩
theorem kl_tri : ∀ {a b : Ky}, Op.bytesLess a b = false → Op.bytesLess b a = false → a = b
  | [], [], _, _ => rfl
  | [], _ :: _, h, _ => by simp [Op.bytesLess] at h
  | _ :: _, [], _, k => by simp [Op.bytesLess] at k
  | a :: x, b :: y, h, k => by
    simp only [Op.bytesLess, Bool.or_eq_false_iff, Bool.and_eq_false_iff, decide_eq_false_iff_not, beq_eq_false_iff_ne] at h k
    have hab : a = b := by
      apply UInt8.toNat_inj.1
      have h1 := h.1
      have k1 := k.1
      rw [UInt8.lt_iff_toNat_lt] at h1 k1
      omega
    subst hab
    rw [kl_tri (h.2.resolve_left (fun e => e rfl)) (k.2.resolve_left (fun e => e rfl))]
theorem kl_asym {a b : Ky} (h : Op.bytesLess a b = true) : Op.bytesLess b a = false := by
  rcases hb : Op.bytesLess b a with _ | _
  · rfl
  · have := kl_trans h hb
    rw [kl_irr] at this
    cases this
theorem kl_ne {a b : Ky} (h : Op.bytesLess a b = true) : a ≠ b := by rintro rfl; rw [kl_irr] at h; cases h
/-- a ≤ b, b < c -/
theorem kl_le_lt {a b c : Ky} (h : Op.bytesLess b a = false) (k : Op.bytesLess b c = true) : Op.bytesLess a c = true := by
  rcases hb : Op.bytesLess a b with _ | _
  · rw [kl_tri hb h]; exact k
  · exact kl_trans hb k
theorem kl_lt_le {a b c : Ky} (h : Op.bytesLess a b = true) (k : Op.bytesLess c b = false) : Op.bytesLess a c = true := by
  rcases hb : Op.bytesLess b c with _ | _
  · rw [← kl_tri hb k]; exact h
  · exact kl_trans h hb

section
variable {β : Type}
/-! ## lists of pairs -/
def Srt (l : List (Ky × β)) : Prop := l.Pairwise fun p q => Op.bytesLess p.1 q.1 = true
def srtB : List (Ky × β) → Bool
  | [] => true
  | p :: r => r.all (fun q => Op.bytesLess p.1 q.1) && srtB r
theorem srtB_iff : ∀ (l : List (Ky × β)), srtB l = true ↔ Srt l
  | [] => by simp [srtB, Srt]
  | p :: r => by
    have := srtB_iff r
    simp only [srtB, Srt, Bool.and_eq_true, List.all_eq_true, List.pairwise_cons] at this ⊢
    rw [this]
def insK (k : Ky) (v : β) : List (Ky × β) → List (Ky × β)
  | [] => [(k, v)]
  | p :: r => if p.1 == k then (k, v) :: r else if Op.bytesLess k p.1 then (k, v) :: p :: r else p :: insK k v r
def hasK (k : Ky) (l : List (Ky × β)) : Bool := l.any fun p => p.1 == k
def delK (k : Ky) (l : List (Ky × β)) : List (Ky × β) := l.filter fun p => p.1 != k
def getK (k : Ky) (l : List (Ky × β)) : Option β := (l.find? fun p => p.1 == k).map (·.2)
def fromK (k : Ky) (l : List (Ky × β)) : List (Ky × β) := l.filter fun p => !Op.bytesLess p.1 k
def backK (k : Ky) (l : List (Ky × β)) : List (Ky × β) := (l.filter fun p => !Op.bytesLess k p.1).reverse
def rankK (k : Ky) (l : List (Ky × β)) : Nat := (l.filter fun p => Op.bytesLess p.1 k).length
/-- all keys of a list are below k; above k -/
def Low (k : Ky) (l : List (Ky × β)) : Prop := ∀ p ∈ l, Op.bytesLess p.1 k = true
def High (k : Ky) (l : List (Ky × β)) : Prop := ∀ p ∈ l, Op.bytesLess k p.1 = true
theorem ins_low {k : Ky} {v : β} : ∀ {A : List (Ky × β)} (X : List (Ky × β)), Low k A → insK k v (A ++ X) = A ++ insK k v X
  | [], X, _ => rfl
  | p :: A, X, h => by
    have hp := h p List.mem_cons_self
    have h2 : (p.1 == k) = false := by simpa using kl_ne hp
    simp only [List.cons_append, insK, h2, kl_asym hp, Bool.false_eq_true, if_false]
    rw [ins_low X fun q hq => h q (List.mem_cons_of_mem _ hq)]
theorem ins_high {k : Ky} {v : β} {B : List (Ky × β)} (hB : High k B) : ∀ (X : List (Ky × β)), insK k v (X ++ B) = insK k v X ++ B
  | [] => by
    cases B with
    | nil => rfl
    | cons p B =>
      have hp := hB p List.mem_cons_self
      have h2 : (p.1 == k) = false := by simpa using (kl_ne hp).symm
      simp only [List.nil_append, insK, h2, hp, Bool.false_eq_true, if_false, if_true]
      rfl
  | p :: X => by
    simp only [List.cons_append, insK]
    rw [ins_high hB X]
    split
    · rfl
    · split <;> rfl
theorem ins_mid {k : Ky} {v : β} {A B : List (Ky × β)} (X : List (Ky × β)) (hA : Low k A) (hB : High k B) : insK k v (A ++ X ++ B) = A ++ insK k v X ++ B := by
  rw [ins_high hB, ins_low X hA]
theorem low_has {k : Ky} {A : List (Ky × β)} (h : Low k A) : hasK k A = false := by
  rw [hasK, List.any_eq_false]
  intro p hp
  simpa using kl_ne (h p hp)
theorem high_has {k : Ky} {A : List (Ky × β)} (h : High k A) : hasK k A = false := by
  rw [hasK, List.any_eq_false]
  intro p hp
  simpa using (kl_ne (h p hp)).symm
theorem has_mid {k : Ky} {A B : List (Ky × β)} (X : List (Ky × β)) (hA : Low k A) (hB : High k B) : hasK k (A ++ X ++ B) = hasK k X := by
  have h1 := low_has hA
  have h2 := high_has hB
  unfold hasK at *
  rw [List.any_append, List.any_append, h1, h2, Bool.or_false, Bool.false_or]
theorem del_none {k : Ky} {A : List (Ky × β)} (h : hasK k A = false) : delK k A = A := by
  rw [hasK, List.any_eq_false] at h
  rw [delK, List.filter_eq_self]
  intro p hp
  have := h p hp
  simpa using this
theorem del_mid {k : Ky} {A B : List (Ky × β)} (X : List (Ky × β)) (hA : Low k A) (hB : High k B) : delK k (A ++ X ++ B) = A ++ delK k X ++ B := by
  have h1 := del_none (low_has hA)
  have h2 := del_none (high_has hB)
  unfold delK at *
  rw [List.filter_append, List.filter_append, h1, h2]
theorem find_none {k : Ky} {A : List (Ky × β)} (h : hasK k A = false) : A.find? (fun p => p.1 == k) = none := by
  rw [hasK, List.any_eq_false] at h
  rw [List.find?_eq_none]
  intro p hp
  have := h p hp
  simpa using this
theorem get_mid {k : Ky} {A B : List (Ky × β)} (X : List (Ky × β)) (hA : Low k A) (hB : High k B) : getK k (A ++ X ++ B) = getK k X := by
  unfold getK
  rw [List.find?_append, List.find?_append, find_none (low_has hA), find_none (high_has hB), Option.none_or, Option.or_none]
theorem get_has {k : Ky} {l : List (Ky × β)} : (getK k l).isSome = hasK k l := by
  unfold getK hasK
  rw [Option.isSome_map]
  induction l with
  | nil => rfl
  | cons p r ih =>
    rw [List.find?_cons, List.any_cons]
    cases (p.1 == k) with
    | true => rfl
    | false => simpa using ih
theorem from_mid {k : Ky} {A B : List (Ky × β)} (X : List (Ky × β)) (hA : Low k A) (hB : High k B) : fromK k (A ++ X ++ B) = fromK k X ++ B := by
  unfold fromK
  have h1 : A.filter (fun p => !Op.bytesLess p.1 k) = [] := List.filter_eq_nil_iff.2 (fun p hp => by simp [hA p hp])
  have h2 : B.filter (fun p => !Op.bytesLess p.1 k) = B := List.filter_eq_self.2 (fun p hp => by simp [kl_asym (hB p hp)])
  rw [List.filter_append, List.filter_append, h1, h2, List.nil_append]
theorem back_mid {k : Ky} {A B : List (Ky × β)} (X : List (Ky × β)) (hA : Low k A) (hB : High k B) : backK k (A ++ X ++ B) = backK k X ++ A.reverse := by
  unfold backK
  have h1 : A.filter (fun p => !Op.bytesLess k p.1) = A := List.filter_eq_self.2 (fun p hp => by simp [kl_asym (hA p hp)])
  have h2 : B.filter (fun p => !Op.bytesLess k p.1) = [] := List.filter_eq_nil_iff.2 (fun p hp => by simp [hB p hp])
  rw [List.filter_append, List.filter_append, h1, h2, List.append_nil, List.reverse_append]
theorem rank_mid {k : Ky} {A B : List (Ky × β)} (X : List (Ky × β)) (hA : Low k A) (hB : High k B) : rankK k (A ++ X ++ B) = A.length + rankK k X := by
  unfold rankK
  have h1 : A.filter (fun p => Op.bytesLess p.1 k) = A := List.filter_eq_self.2 (fun p hp => hA p hp)
  have h2 : B.filter (fun p => Op.bytesLess p.1 k) = [] := List.filter_eq_nil_iff.2 (fun p hp => by simp [kl_asym (hB p hp)])
  rw [List.filter_append, List.filter_append, h1, h2, List.append_nil, List.length_append]
theorem Srt.ins {k : Ky} {v : β} : ∀ {l : List (Ky × β)}, Srt l → Srt (insK k v l)
  | [], _ => by simp [insK, Srt]
  | p :: r, h => by
    have h' := List.pairwise_cons.1 h
    simp only [insK]
    split
    · rename_i e
      have e : p.1 = k := by simpa using e
      exact List.pairwise_cons.2 ⟨fun q hq => by rw [← e]; exact h'.1 q hq, h'.2⟩
    · split
      · rename_i e
        exact List.pairwise_cons.2 ⟨fun q hq => by
          rcases List.mem_cons.1 hq with rfl | hq
          · exact e
          · exact kl_trans e (h'.1 q hq), h⟩
      · rename_i e1 e2
        refine List.pairwise_cons.2 ⟨?_, Srt.ins h'.2⟩
        have hpk : Op.bytesLess p.1 k = true := by
          rcases hb : Op.bytesLess p.1 k with _ | _
          · exact absurd (kl_tri hb (by simpa using e2)) (by simpa using e1)
          · rfl
        have : ∀ (r : List (Ky × β)), (∀ q ∈ r, Op.bytesLess p.1 q.1 = true) → ∀ q ∈ insK k v r, Op.bytesLess p.1 q.1 = true := by
          intro r
          induction r with
          | nil => intro _ q hq; simp [insK] at hq; subst hq; exact hpk
          | cons a r ih =>
            intro hr q hq
            simp only [insK] at hq
            split at hq
            · rcases List.mem_cons.1 hq with rfl | hq
              · exact hpk
              · exact hr q (List.mem_cons_of_mem _ hq)
            · split at hq
              · rcases List.mem_cons.1 hq with rfl | hq
                · exact hpk
                · exact hr q hq
              · rcases List.mem_cons.1 hq with rfl | hq
                · exact hr _ List.mem_cons_self
                · exact ih (fun x hx => hr x (List.mem_cons_of_mem _ hx)) q hq
        exact this r h'.1
theorem Srt.del {k : Ky} {l : List (Ky × β)} (h : Srt l) : Srt (delK k l) := List.Pairwise.filter _ h
theorem Srt.left {A B : List (Ky × β)} (h : Srt (A ++ B)) : Srt A := (List.pairwise_append.1 h).1
theorem Srt.right {A B : List (Ky × β)} (h : Srt (A ++ B)) : Srt B := (List.pairwise_append.1 h).2.1
theorem Srt.cross {A B : List (Ky × β)} (h : Srt (A ++ B)) {p q : Ky × β} (hp : p ∈ A) (hq : q ∈ B) : Op.bytesLess p.1 q.1 = true := (List.pairwise_append.1 h).2.2 p hp q hq
theorem ins_len {k : Ky} {v : β} : ∀ {l : List (Ky × β)}, Srt l → (insK k v l).length = l.length + (if hasK k l then 0 else 1)
  | [], _ => rfl
  | p :: r, h => by
    have h' := List.pairwise_cons.1 h
    simp only [insK, hasK, List.any_cons]
    by_cases e : (p.1 == k) = true
    · simp [e]
    · have e := Bool.eq_false_iff.2 e
      simp only [e, Bool.false_eq_true, if_false, Bool.false_or]
      rcases e2 : Op.bytesLess k p.1 with _ | _
      · simp only [Bool.false_eq_true, if_false, List.length_cons]
        rw [ins_len h'.2]
        unfold hasK
        omega
      · have : hasK k r = false := high_has fun q hq => kl_trans e2 (h'.1 q hq)
        unfold hasK at this
        simp only [this, Bool.false_eq_true, if_false, if_true, List.length_cons]
theorem del_len {k : Ky} : ∀ {l : List (Ky × β)}, Srt l → (delK k l).length = l.length - (if hasK k l then 1 else 0)
  | [], _ => rfl
  | p :: r, h => by
    have h' := List.pairwise_cons.1 h
    rcases e : (p.1 == k) with _ | _
    · have h1 : hasK k (p :: r) = hasK k r := by simp only [hasK, List.any_cons, e, Bool.false_or]
      have h2 : delK k (p :: r) = p :: delK k r := by simp [delK, bne, e]
      rw [h1, h2, List.length_cons, List.length_cons, del_len h'.2]
      rcases hh : hasK k r with _ | _
      · simp
      · have : 0 < r.length := by
          cases r with
          | nil => simp [hasK] at hh
          | cons _ _ => simp
        simp only [if_true]
        omega
    · have e' : p.1 = k := by simpa using e
      have h1 : hasK k (p :: r) = true := by simp only [hasK, List.any_cons, e, Bool.true_or]
      have h3 : hasK k r = false := high_has fun q hq => by rw [← e']; exact h'.1 q hq
      have h2 : delK k (p :: r) = delK k r := by simp [delK, bne, e]
      rw [h1, h2, del_none h3]
      simp

/-! ## trees -/
def TrD (β : Type) : Nat → Type
  | 0 => List (Ky × β)
  | d + 1 => List (TrD β d)
abbrev as0 (t : TrD β 0) : List (Ky × β) := t
abbrev asL {d : Nat} (t : TrD β (d + 1)) : List (TrD β d) := t
def cD : (d : Nat) → TrD β d → List (Ky × β)
  | 0, l => l
  | d + 1, ks => List.flatMap (cD d) (asL ks)
def szD : (d : Nat) → TrD β d → Nat
  | 0, l => List.length (as0 l)
  | _ + 1, ks => List.length (asL ks)
def hdK (l : List (Ky × β)) : Ky := (l.head?.map (·.1)).getD []
def lkD : (d : Nat) → TrD β d → Ky
  | 0, l => hdK (as0 l)
  | d + 1, ks => ((List.head? (asL ks)).map (lkD d)).getD []
/-- between m and 8 parts, of kids 4 at least -/
def okD : Nat → (d : Nat) → TrD β d → Prop
  | m, 0, l => m ≤ List.length (as0 l) ∧ List.length (as0 l) ≤ 8
  | m, d + 1, ks => (m ≤ List.length (asL ks) ∧ List.length (asL ks) ≤ 8) ∧ ∀ x ∈ (asL ks), okD 4 d x
def okB : Nat → (d : Nat) → TrD β d → Bool
  | m, 0, l => decide (m ≤ List.length (as0 l)) && decide (List.length (as0 l) ≤ 8)
  | m, d + 1, ks => (decide (m ≤ List.length (asL ks)) && decide (List.length (asL ks) ≤ 8)) && (List.all (asL ks) fun x => okB 4 d x)
theorem okB_iff : ∀ (m d : Nat) (t : TrD β d), okB m d t = true ↔ okD m d t
  | m, 0, l => by simp [okB, okD]
  | m, d + 1, ks => by
    simp only [okB, okD, Bool.and_eq_true, decide_eq_true_eq, List.all_eq_true]
    constructor
    · rintro ⟨h1, h2⟩; exact ⟨h1, fun x hx => (okB_iff 4 d x).1 (h2 x hx)⟩
    · rintro ⟨h1, h2⟩; exact ⟨h1, fun x hx => (okB_iff 4 d x).2 (h2 x hx)⟩
theorem okD.weaken {m m' d : Nat} (hm : m' ≤ m) : ∀ {t : TrD β d}, okD m d t → okD m' d t := by
  cases d with
  | zero => intro t h; exact ⟨Nat.le_trans hm h.1, h.2⟩
  | succ d => intro t h; exact ⟨⟨Nat.le_trans hm h.1.1, h.1.2⟩, h.2⟩
theorem okD.sz {m d : Nat} {t : TrD β d} (h : okD m d t) : m ≤ szD d t ∧ szD d t ≤ 8 := by
  cases d with
  | zero => exact h
  | succ d => exact h.1
theorem okD.raise {m m' d : Nat} {t : TrD β d} (h : okD m d t) (hs : m' ≤ szD d t) : okD m' d t := by
  cases d with
  | zero => exact ⟨hs, h.2⟩
  | succ d => exact ⟨⟨hs, h.1.2⟩, h.2⟩
theorem len_flat_le {α γ : Type} {f : α → List γ} {m : Nat} : ∀ {l : List α}, (∀ x ∈ l, m ≤ (f x).length) → m * l.length ≤ (l.flatMap f).length
  | [], _ => by simp
  | x :: l, h => by
    have h1 := h x List.mem_cons_self
    have h2 := len_flat_le (l := l) fun y hy => h y (List.mem_cons_of_mem _ hy)
    rw [List.flatMap_cons, List.length_append, List.length_cons, Nat.mul_succ]
    omega
theorem len_flat_ge {α γ : Type} {f : α → List γ} {m : Nat} : ∀ {l : List α}, (∀ x ∈ l, (f x).length ≤ m) → (l.flatMap f).length ≤ m * l.length
  | [], _ => by simp
  | x :: l, h => by
    have h1 := h x List.mem_cons_self
    have h2 := len_flat_ge (l := l) fun y hy => h y (List.mem_cons_of_mem _ hy)
    rw [List.flatMap_cons, List.length_append, List.length_cons, Nat.mul_succ]
    omega
theorem okD.least : ∀ {m d : Nat} {t : TrD β d}, okD m d t → m * 4 ^ d ≤ (cD d t).length
  | m, 0, l, h => by simpa [cD] using h.1
  | m, d + 1, ks, h => by
    have := len_flat_le (f := cD d) (m := 4 * 4 ^ d) (l := (asL ks)) fun x hx => okD.least (h.2 x hx)
    calc m * 4 ^ (d + 1) = (4 * 4 ^ d) * m := by rw [Nat.pow_succ, Nat.mul_comm, Nat.mul_comm (4 ^ d) 4]
      _ ≤ (4 * 4 ^ d) * List.length (asL ks) := Nat.mul_le_mul_left _ h.1.1
      _ ≤ _ := this
theorem okD.nonempty {m d : Nat} {t : TrD β d} (h : okD m d t) (hm : 0 < m) : cD d t ≠ [] := by
  have h1 := h.least
  have h2 : 0 < m * 4 ^ d := Nat.mul_pos hm (Nat.pow_pos (by omega))
  intro e
  rw [e] at h1
  simp at h1
  omega
theorem hdK_append {A B : List (Ky × β)} (h : A ≠ []) : hdK (A ++ B) = hdK A := by
  cases A with
  | nil => exact absurd rfl h
  | cons _ _ => rfl
theorem lk_hd : ∀ {m d : Nat} {t : TrD β d}, okD m d t → 0 < m → lkD d t = hdK (cD d t)
  | m, 0, l, h, _ => rfl
  | m, d + 1, ks, h, hm => by
    obtain ⟨h1, h2⟩ := h
    cases ks with
    | nil => simp at h1; omega
    | cons x r =>
      have hx := h2 x List.mem_cons_self
      show lkD d x = hdK (List.flatMap (cD d) (x :: r))
      rw [List.flatMap_cons, hdK_append (hx.nonempty (by omega))]
      exact lk_hd hx (by omega)
theorem hdK_mem {l : List (Ky × β)} (h : l ≠ []) : ∃ p ∈ l, p.1 = hdK l := by
  cases l with
  | nil => exact absurd rfl h
  | cons p _ => exact ⟨p, List.mem_cons_self, rfl⟩
theorem hdK_le {l : List (Ky × β)} (h : Srt l) {p : Ky × β} (hp : p ∈ l) : Op.bytesLess p.1 (hdK l) = false := by
  cases l with
  | nil => cases hp
  | cons q r =>
    rcases List.mem_cons.1 hp with rfl | hp
    · exact kl_irr _
    · exact kl_asym ((List.pairwise_cons.1 h).1 p hp)

/-- so many keys are not above x -/
def kcN (keys : List Ky) (x : Ky) : Nat := (keys.takeWhile fun a => !Op.bytesLess x a).length
def kidN {d : Nat} (ks : List (TrD β d)) (x : Ky) : Nat := kcN (ks.map (lkD d)) x - 1
theorem kcN_le (x : Ky) (l : List Ky) : kcN l x ≤ l.length := List.Sublist.length_le (List.takeWhile_sublist _)
theorem kcN_lt {x : Ky} : ∀ {l : List Ky} {j : Nat} {a : Ky}, j < kcN l x → l[j]? = some a → Op.bytesLess x a = false
  | [], j, a, h, _ => by simp [kcN] at h
  | b :: l, j, a, h, ha => by
    unfold kcN at h
    rw [List.takeWhile_cons] at h
    split at h
    · rename_i hb
      cases j with
      | zero => simp at ha; subst ha; simpa using hb
      | succ j => exact kcN_lt (l := l) (j := j) (by simpa [kcN] using h) (by simpa using ha)
    · simp at h
theorem kcN_at {x : Ky} : ∀ {l : List Ky} {a : Ky}, l[kcN l x]? = some a → Op.bytesLess x a = true
  | [], a, h => by simp [kcN] at h
  | b :: l, a, h => by
    unfold kcN at h
    rw [List.takeWhile_cons] at h
    split at h
    · exact kcN_at (l := l) (by simpa [kcN] using h)
    · rename_i hb
      simp at h
      subst h
      simpa using hb
theorem take_get_drop {α : Type} {l : List α} {i : Nat} {x : α} (h : l[i]? = some x) : l = l.take i ++ [x] ++ l.drop (i + 1) := by
  obtain ⟨hi, e⟩ := List.getElem?_eq_some_iff.1 h
  rw [← e, List.append_assoc, List.singleton_append, ← List.drop_eq_getElem_cons hi, List.take_append_drop]
/-- a node, parted at the kid that a key belongs to -/
theorem kid_split {d : Nat} {ks : List (TrD β d)} {x : Ky} (hok : ∀ k ∈ ks, okD 4 d k) (hne : 0 < ks.length) (hs : Srt (ks.flatMap (cD d))) :
    ∃ k, ks[kidN ks x]? = some k ∧ Low x ((ks.take (kidN ks x)).flatMap (cD d)) ∧ High x ((ks.drop (kidN ks x + 1)).flatMap (cD d)) := by
  have hle := kcN_le x (ks.map (lkD d))
  rw [List.length_map] at hle
  have hi : kidN ks x < ks.length := by unfold kidN; omega
  refine ⟨ks[kidN ks x], List.getElem?_eq_getElem hi, ?_, ?_⟩
  · intro p hp
    obtain ⟨y, hy, hpy⟩ := List.mem_flatMap.1 hp
    have hpos : 0 < kidN ks x := by
      rcases Nat.eq_zero_or_pos (kidN ks x) with e | e
      · rw [e] at hy; simp at hy
      · exact e
    have hsp := take_get_drop (List.getElem?_eq_getElem hi)
    have hs2 := hs
    rw [hsp, List.append_assoc, List.flatMap_append] at hs2
    have hk4 := hok _ (List.getElem_mem hi)
    obtain ⟨q, hq, hqk⟩ := hdK_mem (hk4.nonempty (by omega))
    have h1 : Op.bytesLess p.1 q.1 = true := hs2.cross hp (by rw [List.flatMap_append]; exact List.mem_append_left _ (by simpa using hq))
    have h2 : Op.bytesLess x (lkD d ks[kidN ks x]) = false := kcN_lt (l := ks.map (lkD d)) (j := kidN ks x) (by unfold kidN at hpos ⊢; omega) (by rw [List.getElem?_map, List.getElem?_eq_getElem hi]; rfl)
    rw [lk_hd hk4 (by omega), ← hqk] at h2
    exact kl_lt_le h1 h2
  · intro p hp
    obtain ⟨y, hy, hpy⟩ := List.mem_flatMap.1 hp
    -- the first of those behind
    have hj : kcN (ks.map (lkD d)) x < ks.length := by
      have : 0 < (ks.drop (kidN ks x + 1)).length := List.length_pos_of_mem hy
      rw [List.length_drop] at this
      unfold kidN at this
      omega
    have hk4 := hok _ (List.getElem_mem hj)
    have hlt : Op.bytesLess x (lkD d ks[kcN (ks.map (lkD d)) x]) = true := kcN_at (l := ks.map (lkD d)) (by rw [List.getElem?_map, List.getElem?_eq_getElem hj]; rfl)
    rw [lk_hd hk4 (by omega)] at hlt
    have hy2 : y ∈ ks.drop (kcN (ks.map (lkD d)) x) := by
      have e : ks.drop (kidN ks x + 1) = (ks.drop (kcN (ks.map (lkD d)) x)).drop (kidN ks x + 1 - kcN (ks.map (lkD d)) x) := by
        rw [List.drop_drop]; congr 1; unfold kidN; omega
      rw [e] at hy
      exact List.mem_of_mem_drop hy
    have hs2 := hs
    rw [← List.take_append_drop (kcN (ks.map (lkD d)) x) ks, List.flatMap_append] at hs2
    have hs3 := hs2.right
    rw [List.drop_eq_getElem_cons hj] at hs3 hy2
    have hp2 : p ∈ List.flatMap (cD d) (ks[kcN (ks.map (lkD d)) x] :: ks.drop (kcN (ks.map (lkD d)) x + 1)) := List.mem_flatMap.2 ⟨y, hy2, hpy⟩
    have h2 := hdK_le hs3 hp2
    rw [List.flatMap_cons, hdK_append (hk4.nonempty (by omega))] at h2
    exact kl_lt_le hlt h2
theorem flat_split {d : Nat} {ks : List (TrD β d)} {i : Nat} {k : TrD β d} (h : ks[i]? = some k) : ks.flatMap (cD d) = (ks.take i).flatMap (cD d) ++ cD d k ++ (ks.drop (i + 1)).flatMap (cD d) := by
  conv => lhs; rw [take_get_drop h]
  rw [List.flatMap_append, List.flatMap_append, List.flatMap_singleton]

/-! ## put -/
def splitL {α : Type} (l : List α) : List (List α) := if l.length ≤ 8 then [l] else [l.take (l.length / 2), l.drop (l.length / 2)]
theorem splitL_flat {α : Type} (l : List α) : (splitL l).flatten = l := by
  unfold splitL
  split
  · simp
  · simp
theorem flat_flat {α γ : Type} {f : α → List γ} : ∀ (L : List (List α)), L.flatMap (List.flatMap f) = L.flatten.flatMap f
  | [] => rfl
  | x :: L => by rw [List.flatMap_cons, List.flatten_cons, List.flatMap_append, flat_flat L]
theorem splitL_len {α : Type} {l : List α} {m : Nat} (h1 : m ≤ l.length) (h2 : l.length ≤ 16) : ∀ x ∈ splitL l, min m 4 ≤ x.length ∧ x.length ≤ 8 := by
  intro x hx
  unfold splitL at hx
  split at hx
  · simp at hx; subst hx; omega
  · simp at hx
    rcases hx with rfl | rfl
    · simp; omega
    · simp; omega
theorem splitL_num {α : Type} (l : List α) : (splitL l).length = 1 ∨ (splitL l).length = 2 := by
  unfold splitL
  split
  · exact .inl rfl
  · exact .inr rfl
/-- a list of trees, parted -/
def mkD : (d : Nat) → List (TrD β d) → List (TrD β (d + 1)) := fun _ l => splitL l
def putD : (d : Nat) → TrD β d → Ky → β → List (TrD β d) × Bool
  | 0, l, k, v => (splitL (insK k v (as0 l)), !hasK k (as0 l))
  | d + 1, ks, k, v => match (asL ks)[kidN (asL ks) k]? with
    | some x => (splitL (List.take (kidN (asL ks) k) (asL ks) ++ (putD d x k v).1 ++ List.drop (kidN (asL ks) k + 1) (asL ks)), (putD d x k v).2)
    | none => ([], false)
theorem put_spec : ∀ {m d : Nat} {t : TrD β d} {k : Ky} {v : β}, okD m d t → 0 < m → Srt (cD d t) →
    (putD d t k v).1.flatMap (cD d) = insK k v (cD d t) ∧ (putD d t k v).2 = (!hasK k (cD d t)) ∧ ((putD d t k v).1.length = 1 ∨ (putD d t k v).1.length = 2) ∧ (∀ y ∈ (putD d t k v).1, okD (min m 4) d y)
  | m, 0, l, k, v, h, hm, hs => by
    have h1 : m ≤ List.length (as0 l) := h.1
    have h2 : List.length (as0 l) ≤ 8 := h.2
    have hl := ins_len (k := k) (v := v) (l := as0 l) hs
    refine ⟨?_, rfl, splitL_num _, ?_⟩
    · show List.flatMap (fun l : List (Ky × β) => l) (splitL (insK k v l)) = insK k v l
      rw [List.flatMap_id']
      exact splitL_flat _
    · intro y hy
      exact splitL_len (m := m) (by rw [hl]; omega) (by rw [hl]; split <;> omega) y hy
  | m, d + 1, ks, k, v, h, hm, hs => by
    obtain ⟨⟨h1, h2⟩, h3⟩ := h
    obtain ⟨x, hx, hA, hB⟩ := kid_split (x := k) h3 (by omega) hs
    have hx4 := h3 x (List.mem_of_getElem? hx)
    have hfl := flat_split hx
    have hsx : Srt (cD d x) := by
      have := hs
      change Srt (List.flatMap (cD d) (asL ks)) at this
      rw [hfl, List.append_assoc] at this
      exact this.right.left
    obtain ⟨q1, q2, q3, q4⟩ := put_spec (v := v) (k := k) hx4 (by omega) hsx
    have e : putD (d + 1) ks k v = (splitL (List.take (kidN (asL ks) k) (asL ks) ++ (putD d x k v).1 ++ List.drop (kidN (asL ks) k + 1) (asL ks)), (putD d x k v).2) := by
      simp only [putD]
      rw [hx]
      rfl
    have hi : kidN (asL ks) k < List.length (asL ks) := (List.getElem?_eq_some_iff.1 hx).1
    rw [e]
    have hc : cD (d + 1) ks = List.flatMap (cD d) (asL ks) := rfl
    have hlen : (List.take (kidN (asL ks) k) (asL ks) ++ (putD d x k v).1 ++ List.drop (kidN (asL ks) k + 1) (asL ks)).length = List.length (asL ks) - 1 + (putD d x k v).1.length := by
      simp only [List.length_append, List.length_take, List.length_drop]
      omega
    refine ⟨?_, ?_, splitL_num _, ?_⟩
    · show List.flatMap (List.flatMap (cD d)) (splitL _) = _
      rw [flat_flat, splitL_flat, hc, hfl, ins_mid _ hA hB, List.flatMap_append, List.flatMap_append, q1]
    · show (putD d x k v).2 = _
      rw [q2, hc, hfl, has_mid _ hA hB]
    · intro y hy
      have hy' := splitL_len (m := m) (by rw [hlen]; omega) (by rw [hlen]; omega) y hy
      refine ⟨hy', ?_⟩
      intro z hz
      have hz' : z ∈ (splitL (List.take (kidN (asL ks) k) (asL ks) ++ (putD d x k v).1 ++ List.drop (kidN (asL ks) k + 1) (asL ks))).flatten := List.mem_flatten.2 ⟨y, hy, hz⟩
      rw [splitL_flat] at hz'
      rcases List.mem_append.1 hz' with hz' | hz'
      · rcases List.mem_append.1 hz' with hz' | hz'
        · exact h3 z (List.mem_of_mem_take hz')
        · exact q4 z hz'
      · exact h3 z (List.mem_of_mem_drop hz')

/-! ## remove -/
def joinD : (d : Nat) → TrD β d → TrD β d → List (TrD β d)
  | 0, a, b => splitL ((as0 a) ++ (as0 b))
  | d + 1, a, b => splitL ((asL a) ++ (asL b))
def mendD {d : Nat} (ks : List (TrD β d)) (i : Nat) : List (TrD β d) :=
  match ks[i]? with
  | none => ks
  | some x => if 4 ≤ szD d x || ks.length == 1 then ks else
    match ks[i - 1]?, ks[i - 1 + 1]? with
    | some a, some b => ks.take (i - 1) ++ joinD d a b ++ ks.drop (i - 1 + 2)
    | _, _ => []
def remD : (d : Nat) → TrD β d → Ky → TrD β d
  | 0, l, k => delK k (as0 l)
  | d + 1, ks, k => match (asL ks)[kidN (asL ks) k]? with
    | some x => mendD (List.set (asL ks) (kidN (asL ks) k) (remD d x k)) (kidN (asL ks) k)
    | none => ks
theorem join_spec {d : Nat} {a b : TrD β d} {m : Nat} (ha : okD m d a) (hb : okD m d b) (hs : 4 ≤ szD d a + szD d b) (hs2 : szD d a + szD d b ≤ 16) :
    (joinD d a b).flatMap (cD d) = cD d a ++ cD d b ∧ (∀ y ∈ joinD d a b, okD 4 d y) ∧ ((joinD d a b).length = 1 ∨ (joinD d a b).length = 2) := by
  cases d with
  | zero =>
    refine ⟨?_, ?_, splitL_num _⟩
    · show List.flatMap (fun l : List (Ky × β) => l) (splitL _) = _
      rw [List.flatMap_id']
      exact splitL_flat _
    · intro y hy
      have hl : ((as0 a) ++ (as0 b)).length = szD 0 a + szD 0 b := List.length_append
      have := splitL_len (m := 4) (by rw [hl]; exact hs) (by rw [hl]; exact hs2) y hy
      exact this
  | succ d =>
    refine ⟨?_, ?_, splitL_num _⟩
    · show List.flatMap (List.flatMap (cD d)) (splitL _) = _
      rw [flat_flat, splitL_flat, List.flatMap_append]
      rfl
    · intro y hy
      have hl : ((asL a) ++ (asL b)).length = szD (d + 1) a + szD (d + 1) b := List.length_append
      have := splitL_len (m := 4) (by rw [hl]; exact hs) (by rw [hl]; exact hs2) y hy
      refine ⟨this, fun z hz => ?_⟩
      have hz' : z ∈ (splitL ((asL a) ++ (asL b))).flatten := List.mem_flatten.2 ⟨y, hy, hz⟩
      rw [splitL_flat] at hz'
      rcases List.mem_append.1 hz' with hz' | hz'
      · exact ha.2 z hz'
      · exact hb.2 z hz'
/-- kids of which one may have too few parts, mended -/
theorem mend_spec {d : Nat} {ks : List (TrD β d)} {i : Nat} {y : TrD β d} (hy : ks[i]? = some y) (hy3 : okD 3 d y) (hoth : ∀ j x, j ≠ i → ks[j]? = some x → okD 4 d x) (hl : 2 ≤ ks.length) :
    (mendD ks i).flatMap (cD d) = ks.flatMap (cD d) ∧ (∀ x ∈ mendD ks i, okD 4 d x) ∧ ks.length - 1 ≤ (mendD ks i).length ∧ (mendD ks i).length ≤ ks.length := by
  obtain ⟨hi, hiy⟩ := List.getElem?_eq_some_iff.1 hy
  unfold mendD
  simp only [hy]
  split
  · rename_i hc
    have hc : 4 ≤ szD d y := by
      simp only [Bool.or_eq_true, decide_eq_true_eq, beq_iff_eq] at hc
      omega
    refine ⟨rfl, ?_, by omega, by omega⟩
    intro x hx
    obtain ⟨j, hj, rfl⟩ := List.getElem_of_mem hx
    by_cases e : j = i
    · subst e; rw [hiy]; exact hy3.raise hc
    · exact hoth j _ e (List.getElem?_eq_getElem hj)
  · rename_i hc
    have h1 : i - 1 < ks.length := by omega
    have h2 : i - 1 + 1 < ks.length := by omega
    have ea := List.getElem?_eq_getElem h1
    have eb := List.getElem?_eq_getElem h2
    rw [ea, eb]
    show List.flatMap _ _ = _ ∧ _
    have hall : ∀ j (hj : j < ks.length), okD 3 d ks[j] := fun j hj => by
      by_cases e : j = i
      · subst e; rw [hiy]; exact hy3
      · exact (hoth j _ e (List.getElem?_eq_getElem hj)).weaken (by omega)
    have s1 := (hall _ h1).sz
    have s2 := (hall _ h2).sz
    obtain ⟨q1, q2, q3⟩ := join_spec (hall _ h1) (hall _ h2) (by omega) (by omega)
    have hks : ks = ks.take (i - 1) ++ [ks[i - 1], ks[i - 1 + 1]] ++ ks.drop (i - 1 + 2) := by
      conv => lhs; rw [take_get_drop ea, List.drop_eq_getElem_cons h2]
      simp
    refine ⟨?_, ?_, ?_, ?_⟩
    · conv => rhs; rw [hks]
      rw [List.flatMap_append, List.flatMap_append, List.flatMap_append, List.flatMap_append, q1]
      simp
    · intro x hx
      rcases List.mem_append.1 hx with hx | hx
      · rcases List.mem_append.1 hx with hx | hx
        · obtain ⟨j, hj, rfl⟩ := List.getElem_of_mem hx
          rw [List.length_take] at hj
          rw [List.getElem_take]
          exact hoth j _ (by omega) (List.getElem?_eq_getElem (by omega))
        · exact q2 x hx
      · obtain ⟨j, hj, rfl⟩ := List.getElem_of_mem hx
        rw [List.length_drop] at hj
        rw [List.getElem_drop]
        exact hoth _ _ (by omega) (List.getElem?_eq_getElem (by omega))
    · simp only [List.length_append, List.length_take, List.length_drop]
      omega
    · simp only [List.length_append, List.length_take, List.length_drop]
      omega
theorem rem_spec : ∀ {m d : Nat} {t : TrD β d} {k : Ky}, okD m d t → (d = 0 → 1 ≤ m) → (0 < d → 2 ≤ m) → Srt (cD d t) →
    cD d (remD d t k) = delK k (cD d t) ∧ okD (m - 1) d (remD d t k)
  | m, 0, l, k, h, hm, _, hs => by
    have h1 : m ≤ List.length (as0 l) := h.1
    have h2 : List.length (as0 l) ≤ 8 := h.2
    have hl := del_len (k := k) (l := as0 l) hs
    refine ⟨rfl, ?_⟩
    show m - 1 ≤ List.length (delK k l) ∧ List.length (delK k l) ≤ 8
    rw [hl]
    split <;> omega
  | m, d + 1, ks, k, h, _, hm, hs => by
    have hm := hm (by omega)
    obtain ⟨⟨h1, h2⟩, h3⟩ := h
    obtain ⟨x, hx, hA, hB⟩ := kid_split (x := k) h3 (by omega) hs
    have hx4 := h3 x (List.mem_of_getElem? hx)
    have hfl := flat_split hx
    have hsx : Srt (cD d x) := by
      have := hs
      change Srt (List.flatMap (cD d) (asL ks)) at this
      rw [hfl, List.append_assoc] at this
      exact this.right.left
    obtain ⟨q1, q2⟩ := rem_spec (k := k) hx4 (by omega) (by omega) hsx
    have hi : kidN (asL ks) k < List.length (asL ks) := (List.getElem?_eq_some_iff.1 hx).1
    have e : remD (d + 1) ks k = mendD (List.set (asL ks) (kidN (asL ks) k) (remD d x k)) (kidN (asL ks) k) := by
      simp only [remD]
      rw [hx]
    have hset : (List.set (asL ks) (kidN (asL ks) k) (remD d x k))[kidN (asL ks) k]? = some (remD d x k) := by
      rw [List.getElem?_set_self hi]
    obtain ⟨p1, p2, p3, p4⟩ := mend_spec hset q2 (fun j y hj hy => by
      rw [List.getElem?_set_ne (Ne.symm hj)] at hy
      exact h3 y (List.mem_of_getElem? hy)) (by rw [List.length_set]; omega)
    rw [List.length_set] at p3 p4
    have hc : cD (d + 1) ks = List.flatMap (cD d) (asL ks) := rfl
    rw [e]
    refine ⟨?_, ⟨⟨?_, ?_⟩, p2⟩⟩
    · show List.flatMap (cD d) (mendD _ _) = _
      rw [p1, flat_split hset, hc, hfl, del_mid _ hA hB, q1, List.take_set_of_le (Nat.le_refl _), List.drop_set_of_lt (Nat.lt_succ_self _)]
    · exact Nat.le_trans (by omega) p3
    · exact Nat.le_trans p4 h2
end
end Go.Proofs.Ytmacjkiamejcnaa
