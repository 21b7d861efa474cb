/-
  Lists as the cells of a slice, in general.
  Plain words: what stands in a span; entries of an index.
  Rows' cells: the value of a column, by slices.IndexFunc and a closure (walked), and its contract for the evaluator.
  Indexes by the evaluator: the column's value, Values, Small, Right, begin, span, Entry, Span.
  Indexes by the evaluator: row.Get's contract; Small, Right, begin, span, Entry, Span.
  Indexes by the evaluator: Small; the first check.
  Indexes by the evaluator: Small; the laws IndexSpans, IndexOrder.
  Indexes: the laws IndexSpans and IndexOrder.
  Indexes: the laws' calls, for whatever arguments come in.
-/
import Derived.Test.YtclhnfalebiieaaDoorPw
import Derived.Test.YtclhnfalebiieaaDoorKo2
import Derived.Test.YtclhnfalebiieaaDoorLawAbove
import Derived.Sort.Walk0
import Derived.Test.YtclhnfalebiieaaDoorKz
import Derived.Laws.Cells
import Derived.Test.YtclhnfalebiieaaDoorKrun
import Derived.Test.YtclhnfalebiieaaDoorPy
import Derived.Test.YtclhnfalebiieaaDoorRow
import Derived.Test.YtclhnfalebiieaaDoorOpenVals
set_option linter.unusedVariables false
set_option linter.unusedSimpArgs false
namespace Go.Proofs.YtclhnfalebiieaaDoor
open Go.RowKit

theorem flat_len {α : Type} {f : α → List PV} {sz : Nat} (hf : ∀ x, (f x).length = sz) : ∀ (l : List α), (l.flatMap f).length = l.length * sz
  | [] => by simp
  | x :: l => by rw [List.flatMap_cons, List.length_append, hf, flat_len hf l, List.length_cons, Nat.add_mul, Nat.one_mul, Nat.add_comm]
theorem flat_at {α : Type} {f : α → List PV} {sz : Nat} (hf : ∀ x, (f x).length = sz) : ∀ {l : List α} {i : Nat} {x : α}, l[i]? = some x → ((l.flatMap f).drop (i * sz)).take sz = f x
  | y :: l, 0, x, h => by
    simp only [List.getElem?_cons_zero, Option.some.injEq] at h
    subst h
    rw [Nat.zero_mul, List.drop_zero, List.flatMap_cons, ← hf y, List.take_left]
  | y :: l, i + 1, x, h => by
    simp only [List.getElem?_cons_succ] at h
    rw [List.flatMap_cons, Nat.add_mul, Nat.one_mul, Nat.add_comm, ← List.drop_drop, ← hf y, List.drop_left, hf y]
    exact flat_at hf h
/-- the list that cells are -/
def decG {α : Type} (sz : Nat) (g : List PV → Option α) : Nat → List PV → Option (List α)
  | 0, [] => some []
  | 0, _ :: _ => none
  | n + 1, c => (g (c.take sz)).bind fun x => (decG sz g n (c.drop sz)).map (x :: ·)
theorem decG_of {α : Type} {sz : Nat} {g : List PV → Option α} {f : α → List PV} (hf : ∀ x, (f x).length = sz) (hg : ∀ x, g (f x) = some x) : ∀ (l : List α), decG sz g l.length (l.flatMap f) = some l
  | [] => rfl
  | x :: l => by
    rw [List.length_cons, List.flatMap_cons, decG, ← hf x, List.take_left, List.drop_left, hg x, hf x, Option.bind_some, decG_of hf hg l]
    rfl
theorem decG_inv {α : Type} {sz : Nat} {g : List PV → Option α} {f : α → List PV} (hg : ∀ c x, g c = some x → c = f x) : ∀ {n : Nat} {c : List PV} {l : List α}, decG sz g n c = some l → n = l.length ∧ c = l.flatMap f
  | 0, [], l, h => by injection h with h; subst h; exact ⟨rfl, rfl⟩
  | 0, _ :: _, l, h => by cases h
  | n + 1, c, l, h => by
    rw [decG] at h
    obtain ⟨x, h1, h2⟩ := Option.bind_eq_some_iff.1 h
    obtain ⟨t, h3, rfl⟩ := Option.map_eq_some_iff.1 h2
    obtain ⟨rfl, h4⟩ := decG_inv hg h3
    refine ⟨rfl, ?_⟩
    rw [List.flatMap_cons, ← hg _ _ h1, ← h4, List.take_append_drop]
theorem bindL_nat {α R : Type} {a : Option (List α)} {g : List α → Bool} {v : List α → PV} {k : PV → Option R} :
    (a.bind fun A => bif g A then k (v A) else none) = (a.bind fun A => bif g A then some (v A) else none).bind k := by
  cases a with
  | none => rfl
  | some a => simp only [Option.bind_some]; cases g a <;> rfl
theorem bindL_inv {α : Type} {a : Option (List α)} {g : List α → Bool} {v : List α → PV} {r : PV} (h : (a.bind fun A => bif g A then some (v A) else none) = some r) : ∃ A, a = some A ∧ g A = true ∧ r = v A := by
  obtain ⟨A, h1, h⟩ := Option.bind_eq_some_iff.1 h
  cases hg : g A <;> rw [hg] at h
  · cases h
  · injection h with h
    exact ⟨A, h1, hg, h.symm⟩
end Go.Proofs.YtclhnfalebiieaaDoor
set_option linter.unusedVariables false
set_option linter.unusedSimpArgs false
namespace Go.Proofs.YtclhnfalebiieaaDoor
open Go.RowKit

theorem cmpN_numI (a b : Int) : cmpN a b = numI a b := by
  unfold cmpN numI
  by_cases h : a < b
  · rw [if_pos h, decide_eq_true h]; rfl
  · rw [if_neg h, decide_eq_false h]
    by_cases k : b < a
    · rw [if_pos k, decide_eq_true k]; rfl
    · rw [if_neg k, decide_eq_false k]; rfl
theorem textCmp_txt : ∀ (a b : List UInt8), textCmp a b = txtL a b
  | [], [] => rfl
  | [], _ :: _ => rfl
  | _ :: _, [] => rfl
  | a :: x, b :: y => by
    rw [textCmp, txtL, textCmp_txt x y, cmpN_numI]
    by_cases h : a = b
    · rw [if_pos h, cond_t (by simpa using h)]
    · rw [if_neg h, cond_f (by simpa using h)]
theorem numI_swap (a b : Int) : numI a b = -numI b a := by
  rcases Int.lt_trichotomy a b with h | h | h
  · rw [numI_lt h, numI_gt h]
  · rw [h, numI_self]; rfl
  · rw [numI_gt h, numI_lt h]; rfl
theorem txt_swap : ∀ (a b : List UInt8), txtL a b = -txtL b a
  | [], [] => rfl
  | [], _ :: _ => rfl
  | _ :: _, [] => rfl
  | a :: x, b :: y => by
    rw [txtL, txtL]
    by_cases h : a = b
    · subst h
      rw [beq_self_eq_true, cond_true, cond_true, txt_swap x y]
    · rw [cond_f (by simpa using h), cond_f (by simpa using fun e => h e.symm), numI_swap]
theorem txt_zero : ∀ (a b : List UInt8), txtL a b = 0 → a = b
  | [], [], _ => rfl
  | [], _ :: _, h => by cases h
  | _ :: _, [], h => by cases h
  | a :: x, b :: y, h => by
    rw [txtL] at h
    by_cases e : a = b
    · subst e
      rw [beq_self_eq_true, cond_true] at h
      rw [txt_zero x y h]
    · rw [cond_f (by simpa using e)] at h
      exact absurd h (numI_ne (u8_ne_nat e))
theorem lss_txt : ∀ (a b : List UInt8), Op.bytesLess a b = decide (txtL a b < 0)
  | [], [] => rfl
  | [], _ :: _ => rfl
  | _ :: _, [] => rfl
  | a :: x, b :: y => by
    rw [Op.bytesLess, lss_txt x y, txtL]
    by_cases e : a = b
    · subst e
      rw [beq_self_eq_true, cond_true]
      have : ¬ a < a := UInt8.lt_irrefl a
      simp [this]
    · rw [cond_f (by simpa using e)]
      have hb : (a == b) = false := by simpa using e
      have hne := u8_ne_nat e
      rw [hb, Bool.false_and, Bool.or_false]
      by_cases k : a < b
      · have : (a.toNat : Int) < (b.toNat : Int) := by have := UInt8.lt_iff_toNat_lt.1 k; omega
        rw [numI_lt this, decide_eq_true k]; rfl
      · have : ¬ (a.toNat : Int) < (b.toNat : Int) := fun e => k (UInt8.lt_iff_toNat_lt.2 (by omega))
        rw [numI_gt (by omega), decide_eq_false k]; rfl
/-- is it within a span? -/
def inSpan (b e : List UInt8) : Bool := (Op.bytesLess b e || b == e) && Op.bytesLess e (aboveL b)
theorem span_iff {b e : List UInt8} (h : aboveL b ≠ []) : inSpan b e = decide (e.take b.length = b) := by
  unfold inSpan
  rw [lss_txt, lss_txt]
  obtain ⟨_, h2⟩ := above_law b e h
  by_cases hp : e.take b.length = b
  · rw [decide_eq_true hp]
    obtain ⟨r, rfl⟩ : ∃ r, e = b ++ r := ⟨e.drop b.length, by rw [← List.take_append_drop b.length e, hp, List.drop_left' rfl]⟩
    obtain ⟨h1, _⟩ := above_law b r h
    rw [textCmp_txt] at h1
    rw [decide_eq_true h1, Bool.and_true]
    have e1 : txtL b (b ++ r) = txtL [] r := by
      have := txt_pre b [] r
      rwa [List.append_nil] at this
    rw [e1]
    cases r with
    | nil => simp
    | cons c r => rfl
  · rw [decide_eq_false hp]
    rcases h2 with ⟨_, h3⟩ | h3 | h3
    · exact absurd h3 hp
    · rw [textCmp_txt] at h3
      have h4 := txt_swap b e
      have h5 : (b == e) = false := by
        rw [beq_eq_false_iff_ne]
        rintro rfl
        rw [txt_self] at h3
        omega
      rw [decide_eq_false (show ¬ txtL b e < 0 by omega), h5]
      rfl
    · rw [textCmp_txt] at h3
      rw [decide_eq_false (show ¬ txtL e (aboveL b) < 0 by omega), Bool.and_false]
theorem strip_ne {c : UInt8} (h : c ≠ 255) : ∀ (k : Nat) (t : List UInt8), t.length = k → strip (c :: t) ≠ [] := by
  intro k
  induction k with
  | zero =>
    intro t ht
    rw [List.length_eq_zero_iff.1 ht]
    have := strip_stop (l := []) h
    rw [List.nil_append] at this
    rw [this]
    simp
  | succ k ih =>
    intro t ht
    have hne : t ≠ [] := by intro e; rw [e] at ht; cases ht
    obtain ⟨s, d, rfl⟩ : ∃ s d, t = s ++ [d] := ⟨t.dropLast, t.getLast hne, (List.dropLast_concat_getLast hne).symm⟩
    rw [← List.cons_append]
    by_cases hd : d = 255
    · rw [hd, strip_last]
      exact ih s (by simpa using ht)
    · rw [strip_stop hd]
      simp
theorem above_ne {c : UInt8} (h : c ≠ 255) (t : List UInt8) : aboveL (c :: t) ≠ [] := by
  have := strip_ne h t.length t rfl
  unfold aboveL bump
  rcases hl : (strip (c :: t)).getLast? with _ | d
  · rw [List.getLast?_eq_none_iff] at hl; exact absurd hl this
  · simp
/-! ## entries -/
def numV (n : Int) : Val := ⟨2, n, 0, []⟩
theorem right_num (n : Int) : right (numV n) = true := by unfold right numV; simp
theorem enc_num (n : Int) : enc (numV n) = 2 :: be8 n := by
  rw [enc_kind (right_num n)]
  simp [numV]
/-- an entry's begin: its table, its index -/
def preE (t x : Int) : List UInt8 := 105 :: (enc (numV t) ++ enc (numV x))
theorem encs_entry (t x : Int) (l : List Val) : 105 :: encs (numV t :: numV x :: l) = preE t x ++ encs l := by
  rw [encs_cons, encs_cons, preE, List.cons_append, List.append_assoc]
theorem take_pre (p a b : List UInt8) : ((p ++ a).take (p ++ b).length = p ++ b) ↔ (a.take b.length = b) := by
  rw [List.length_append, List.take_length_add_append]
  exact List.append_right_inj p
theorem pre_other (x : Int) (a b : List UInt8) : ¬ ((preE 1 x ++ a).take (preE 2 x ++ b).length = preE 2 x ++ b) := by
  intro h
  have h1 := congrArg (fun l : List UInt8 => l[9]?) h
  have e1 : (preE 1 x ++ a)[9]? = some 1 := by
    rw [preE, enc_num, show be8 1 = [128, 0, 0, 0, 0, 0, 0, 1] by decide +kernel]; rfl
  have e2 : (preE 2 x ++ b)[9]? = some 2 := by
    rw [preE, enc_num, show be8 2 = [128, 0, 0, 0, 0, 0, 0, 2] by decide +kernel]; rfl
  have hl : 9 < (preE 2 x ++ b).length := by
    rcases Nat.lt_or_ge 9 (preE 2 x ++ b).length with h | h
    · exact h
    · rw [List.getElem?_eq_none h] at e2; cases e2
  simp only [List.getElem?_take, if_pos hl] at h1
  rw [e1, e2] at h1
  cases h1
/-- any two values: alike, or their bytes differ at a place -/
theorem enc_any {x y : Val} (hx : right x = true) (hy : right y = true) (hx64 : x.in64) (hy64 : y.in64) : x = y ∨ ∃ z, Dif (enc x) (enc y) z := by
  by_cases hm : mates x y
  · rcases enc_dif hx hy hx64 hy64 hm with ⟨h, _⟩ | h
    · exact .inl h
    · exact .inr ⟨_, h⟩
  · right
    have kx := right_kind hx
    have ky := right_kind hy
    have ex := enc_kind hx
    have ey := enc_kind hy
    unfold mates at hm
    by_cases hk : x.kind = y.kind
    · have hs : x.scale ≠ y.scale := fun e => hm (.inr (.inr ⟨hk, e⟩))
      have h3 : x.kind = 3 ∧ (0 ≤ x.scale ∧ x.scale ≤ 6) ∧ (0 ≤ y.scale ∧ y.scale ≤ 6) := by
        unfold right at hx hy
        rw [← hk] at hy
        by_cases h0 : x.kind = 0
        · exact absurd (.inl h0) hm
        · rw [if_neg h0] at hx hy
          by_cases h1 : x.kind = 1
          · rw [if_pos h1] at hx hy
            simp only [decide_eq_true_eq] at hx hy
            exact absurd (by omega) hs
          · rw [if_neg h1] at hx hy
            by_cases h2 : x.kind = 2
            · rw [if_pos h2] at hx hy
              simp only [decide_eq_true_eq] at hx hy
              exact absurd (by omega) hs
            · rw [if_neg h2] at hx hy
              by_cases h3 : x.kind = 3
              · rw [if_pos h3] at hx hy
                simp only [decide_eq_true_eq] at hx hy
                exact ⟨h3, hx.2, hy.2⟩
              · rw [if_neg h3] at hx hy
                by_cases h4 : x.kind = 4
                · rw [if_pos h4] at hx hy
                  simp only [Bool.and_eq_true, decide_eq_true_eq] at hx hy
                  exact absurd (by omega) hs
                · rw [if_neg h4] at hx hy
                  have h5 : x.kind = 5 := by omega
                  rw [if_pos h5] at hx hy
                  simp only [decide_eq_true_eq] at hx hy
                  exact absurd (by omega) hs
      obtain ⟨h3, s1, s2⟩ := h3
      rw [← hk] at ey
      simp only [h3, if_true, show ¬ (3 : Int) = 1 by decide, show ¬ (3 : Int) = 2 by decide, if_false] at ex ey
      rw [ex, ey]
      have b1 := byte_nat (k := x.scale) (by omega) (by omega)
      have b2 := byte_nat (k := y.scale) (by omega) (by omega)
      exact ⟨_, [_], UInt8.ofNat x.scale.toNat, UInt8.ofNat y.scale.toNat, be8 x.n, be8 y.n, rfl, rfl, fun e => hs (by rw [← b1, ← b2, e]), rfl⟩
    · rw [ex, ey]
      have b1 := byte_nat (k := x.kind) (by omega) (by omega)
      have b2 := byte_nat (k := y.kind) (by omega) (by omega)
      exact ⟨_, [], UInt8.ofNat x.kind.toNat, UInt8.ofNat y.kind.toNat, _, _, rfl, rfl, fun e => hk (by rw [← b1, ← b2, e]), rfl⟩
theorem encs_any : ∀ (a b : List Val), a.length = b.length → (∀ x ∈ a, right x = true ∧ x.in64) → (∀ x ∈ b, right x = true ∧ x.in64) → a = b ∨ ∃ z, Dif (encs a) (encs b) z
  | [], [], _, _, _ => .inl rfl
  | x :: a, y :: b, hl, ha, hb => by
    obtain ⟨h1, h2⟩ := ha x (by simp)
    obtain ⟨h3, h4⟩ := hb y (by simp)
    rw [encs_cons, encs_cons]
    rcases enc_any h1 h3 h2 h4 with rfl | ⟨z, hd⟩
    · rcases encs_any a b (by simpa using hl) (fun u hu => ha u (by simp [hu])) (fun u hu => hb u (by simp [hu])) with rfl | ⟨z, hd⟩
      · exact .inl rfl
      · exact .inr ⟨z, hd.pre _⟩
    · exact .inr ⟨z, hd.append _ _⟩
theorem Dif.lss {a b : List UInt8} {z : Int} (h : Dif a b z) : Op.bytesLess a b = decide (z < 0) := by rw [lss_txt, h.txt]
theorem lss_num {m n : Int} (hm : -9223372036854775808 ≤ m ∧ m ≤ 9223372036854775807) (hn : -9223372036854775808 ≤ n ∧ n ≤ 9223372036854775807) (p : List UInt8) :
    Op.bytesLess (p ++ enc (numV m)) (p ++ enc (numV n)) = decide (m < n) ∧ (p ++ enc (numV m) == p ++ enc (numV n)) = (m == n) := by
  rw [enc_num, enc_num]
  rcases be8_dif hm hn with ⟨rfl, _⟩ | hd
  · constructor
    · rw [lss_txt, txt_self, decide_eq_false (Int.lt_irrefl m)]; rfl
    · simp
  · have hd := (hd.pre [2]).pre p
    have hz := hd.ne
    constructor
    · rw [show p ++ 2 :: be8 m = p ++ ([2] ++ be8 m) from rfl, show p ++ 2 :: be8 n = p ++ ([2] ++ be8 n) from rfl, hd.lss]
      rcases Int.lt_trichotomy m n with h | h | h
      · rw [numI_lt h, decide_eq_true h]; rfl
      · rw [h, numI_self] at hz; exact absurd rfl hz
      · rw [numI_gt h, decide_eq_false (show ¬ m < n by omega)]; rfl
    · have hne : m ≠ n := fun e => by rw [e, numI_self] at hz; exact hz rfl
      rw [show (m == n) = false by simpa using hne, beq_eq_false_iff_ne]
      intro e
      have h1 := hd.txt
      rw [show p ++ ([2] ++ be8 m) = p ++ ([2] ++ be8 n) from e, txt_self] at h1
      exact hz h1.symm
end Go.Proofs.YtclhnfalebiieaaDoor
set_option linter.unusedVariables false
set_option linter.unusedSimpArgs false
set_option maxRecDepth 100000
namespace Go.Proofs.YtclhnfalebiieaaDoor
open Go.RowKit

abbrev Cel := Int × Val
def Cel.vs (c : Cel) : List Value := .int .i64 c.1 :: c.2.cells
def ccs (l : List Cel) : List Value := l.flatMap Cel.vs
def celC (c : Cel) : List PV := .int .i64 c.1 :: V4.cs c.2
def celsC (l : List Cel) : List PV := l.flatMap celC
theorem celC_len (c : Cel) : (celC c).length = 5 := rfl
def celG : List PV → Option Cel
  | [.int .i64 j, .int .i64 a, .int .i64 n, .int .i64 c, .str s] => some (j, ⟨a, n, c, s⟩)
  | _ => none
theorem celG_of (c : Cel) : celG (celC c) = some c := rfl
theorem celG_inv (l : List PV) (c : Cel) (h : celG l = some c) : l = celC c := by
  unfold celG at h
  split at h
  · injection h with h; subst h; rfl
  · cases h
theorem ccs_length (l : List Cel) : (ccs l).length = l.length * 5 := by
  induction l with
  | nil => rfl
  | cons c l ih => rw [ccs, List.flatMap_cons, List.length_append, ← ccs, ih, List.length_cons]; simp only [Cel.vs, Val.cells, List.length_cons, List.length_nil]; omega
theorem ccs_get {l : List Cel} {k : Nat} {x : Cel} (hk : l[k]? = some x) : ∀ i, i < 5 → (ccs l)[k * 5 + i]? = x.vs[i]? := by
  induction l generalizing k with
  | nil => simp at hk
  | cons y l ih =>
    intro i hi
    rw [ccs, List.flatMap_cons, ← ccs]
    cases k with
    | zero =>
      simp only [List.getElem?_cons_zero, Option.some.injEq] at hk
      subst hk
      rw [List.getElem?_append_left (by simp only [Cel.vs, Val.cells, List.length_cons, List.length_nil]; omega), Nat.zero_mul, Nat.zero_add]
    | succ k =>
      rw [List.getElem?_append_right (by simp only [Cel.vs, Val.cells, List.length_cons, List.length_nil]; omega)]
      have := ih (by simpa using hk) i hi
      rw [← this]
      congr 1
      simp only [Cel.vs, Val.cells, List.length_cons, List.length_nil]
      omega
theorem relL_cels {M : Mem} : ∀ (l : List Cel) (us : List Value), RelL M (celsC l) us → us = ccs l
  | [], us, h => by
    have h : RelL M [] us := h
    simp only [RelL] at h
    exact h
  | c :: l, us, h => by
    have h : RelL M (.int .i64 c.1 :: .int .i64 c.2.kind :: .int .i64 c.2.n :: .int .i64 c.2.scale :: .str c.2.s :: celsC l) us := h
    simp only [RelL, RelD] at h
    obtain ⟨_, _, rfl, _, rfl, _, _, rfl, _, rfl, _, _, rfl, _, rfl, _, _, rfl, _, rfl, _, us', rfl, _, rfl, hq⟩ := h
    have e : us' = ccs l := relL_cels l us' hq
    rw [e]
    rfl
theorem rel_cels (M : Mem) : ∀ (l : List Cel), RelL M (celsC l) (ccs l)
  | [] => rfl
  | c :: l => by
    show RelL M (.int .i64 c.1 :: .int .i64 c.2.kind :: .int .i64 c.2.n :: .int .i64 c.2.scale :: .str c.2.s :: celsC l) (.int .i64 c.1 :: .int .i64 c.2.kind :: .int .i64 c.2.n :: .int .i64 c.2.scale :: .string ⟨c.2.s.toArray⟩ :: ccs l)
    simp only [RelL, RelD]
    exact ⟨_, _, rfl, rfl, rfl, _, _, rfl, rfl, rfl, _, _, rfl, rfl, rfl, _, _, rfl, rfl, rfl, _, _, rfl, rfl, rfl, rel_cels M l⟩
theorem sl_cels {M : Mem} {nl : Option Bool} {l : List Cel} {v : Value} (h : RelD M (.sl nl 5 l.length (celsC l)) v) : ∃ A c, v = .slice A l.length c ∧ Sl M.w 5 A l.length c (ccs l) := by
  simp only [RelD] at h
  obtain ⟨A, c, us, rfl, hnc, hcm, _, _, hl, hr, hx⟩ := h
  obtain rfl := relL_cels _ _ hr
  refine ⟨A, c, rfl, ccs_length l, hnc, hcm, fun hn => ?_⟩
  rcases hx with hx | ⟨b, o, rfl, hc⟩
  · have := ccs_length l
    rw [hx] at this
    simp only [List.length_nil] at this
    omega
  · refine ⟨b, o, rfl, ?_, fun j u hu => (hc j u hu).1⟩
    have h0 : 0 < (ccs l).length := by rw [ccs_length]; omega
    have : (ccs l)[0]? = some ((ccs l)[0]'h0) := List.getElem?_eq_getElem h0
    exact World.block_lt_of_cell? M.w _ (hc 0 _ this).1
/-- the first cell of a column -/
def colN (j : Int) : List Cel → Nat → Int
  | [], _ => -1
  | c :: l, i => if c.1 = j then (i : Int) else colN j l (i + 1)
def colV (l : List Cel) (j : Int) : Val :=
  match l with
  | [] => vnull
  | c :: l => if c.1 = j then c.2 else colV l j
theorem colN_at {j : Int} : ∀ (l : List Cel) (i k : Nat) (x : Cel), l[k]? = some x → x.1 = j → (∀ m y, m < k → l[m]? = some y → y.1 ≠ j) → colN j l i = ((i + k : Nat) : Int) ∧ colV l j = x.2
  | c :: l, i, 0, x, h, hx, _ => by
    simp only [List.getElem?_cons_zero, Option.some.injEq] at h
    subst h
    rw [colN, if_pos hx, colV, if_pos hx]
    exact ⟨rfl, rfl⟩
  | c :: l, i, k + 1, x, h, hx, hm => by
    have h0 := hm 0 c (by omega) rfl
    obtain ⟨e1, e2⟩ := colN_at l (i + 1) k x (by simpa using h) hx (fun m y hmk hy => hm (m + 1) y (by omega) (by simpa using hy))
    rw [colN, if_neg h0, colV, if_neg h0, e1, e2]
    exact ⟨by omega, rfl⟩
theorem colN_not {j : Int} : ∀ (l : List Cel) (i : Nat), (∀ (m : Nat) (y : Cel), l[m]? = some y → y.1 ≠ j) → colN j l i = -1 ∧ colV l j = vnull
  | [], _, _ => ⟨rfl, rfl⟩
  | c :: l, i, hm => by
    have h0 := hm 0 c rfl
    obtain ⟨e1, e2⟩ := colN_not l (i + 1) (fun m y hy => hm (m + 1) y (by simpa using hy))
    rw [colN, if_neg h0, colV, if_neg h0, e1, e2]
    exact ⟨rfl, rfl⟩
theorem Sl.cel {w : World} {A : Option Addr} {n c : Nat} {l : List Cel} (h : Sl w 5 A n c (ccs l)) {k : Nat} (hk : k < n) :
    ∃ b o x, A = some ⟨b, o, none⟩ ∧ b < w.heap.size ∧ l[k]? = some x ∧ ∀ i v, x.vs[i]? = some v → w.cell? ⟨b, o + k * 5 + i, none⟩ = some v := by
  obtain ⟨b, o, rfl, hlt, hc⟩ := h.at_ (by omega)
  have hlen : l.length = n := by have := h.len; rw [ccs_length] at this; omega
  have hx : l[k]? = some l[k] := by simp
  refine ⟨b, o, l[k], rfl, hlt, hx, fun i v hi => ?_⟩
  have hi5 : i < 5 := by
    have := (List.getElem?_eq_some_iff.1 hi).1
    simpa [Cel.vs, Val.cells] using this
  have := hc (k * 5 + i) v ((ccs_get hx i hi5).trans hi)
  rwa [← Nat.add_assoc] at this
/-- the closure: is a cell of the column? -/
theorem isCol_any (j : Int) (B : Nat) (W : World) (x : Cel) (hB : B < W.heap.size) (hc : W.cell? ⟨B, 0, none⟩ = some (.int .i64 j)) :
    Calls Tryd.prog 66 #[.agg #[.int .i64 x.1, .int .i64 x.2.kind, .int .i64 x.2.n, .int .i64 x.2.scale, .string ⟨x.2.s.toArray⟩], .pointer (some ⟨B, 0, none⟩)] W (Ret W (.bool (x.1 == j))) := by
  have hne : B ≠ W.heap.size := by omega
  obtain ⟨a, k, n, c, s⟩ := x
  show Calls Tryd.prog 66 #[.agg #[.int .i64 a, .int .i64 k, .int .i64 n, .int .i64 c, .string ⟨s.toArray⟩], .pointer (some ⟨B, 0, none⟩)] W (Ret W (.bool (a == j)))
  go_enter Tryd.func66, Tryd.ntmps66
  go_wp2
  all_goals (go_ret; exact ⟨by simp_all, (Below.refl _ W).alloc (Nat.le_refl _) _⟩)
set_option maxHeartbeats 2000000 in
theorem cellIdx_any (j : Int) (w : World) (A : Option Addr) (n c : Nat) (l : List Cel) (h : Sl w 5 A n c (ccs l)) (B : Nat) (hB : B < w.heap.size) (hcB : w.cell? ⟨B, 0, none⟩ = some (.int .i64 j)) :
    Calls Tryd.prog 65 #[.slice A n c, .func (.func 66) #[] #[.pointer (some ⟨B, 0, none⟩)]] w (Ret w (.int .i64 (colN j l 0))) := by
  obtain ⟨ANS, hA⟩ : ∃ r, colN j l 0 = r := ⟨_, rfl⟩
  rw [hA]
  have HA := hide hA
  have hn := h.nc
  have hm := h.cm
  unfold maxLen at hm
  have hlen : l.length = n := by have := h.len; rw [ccs_length] at this; omega
  have HLEN := hide hlen
  have hm' : (n : Int) ≤ 9223372036854775807 := by omega
  have HS := hide h
  have HB := hide hB
  have HC := hide hcB
  clear hlen h hA hm hn hcB
  have eg : ∀ args w, (callFunc 66 args).run Tryd.prog w = .ok (.enter 66 args) w := enters_of Tryd.func66 (by kernel_rfl) rfl
  go_enter Tryd.func65, Tryd.ntmps65
  go_wp2_with fail
  go_loopw [5, 8] (fun _ i wr => ∃ k : Nat, k ≤ n ∧ i = .int .i64 (k : Int) ∧ Below w.heap.size w wr ∧ Hid (∀ m y, m < k → l[m]? = some y → y.1 ≠ j)) (fun _ i _ => (n - (intOf i).toNat))
  case atStart => exact ⟨0, by omega, rfl, Below.refl _ _, hide (fun m y h => absurd h (by omega))⟩
  case round =>
    obtain ⟨k, hk, rfl, hb, hall⟩ := hrel
    have hbs := hb.size
    by_cases hlt : k < n
    · obtain ⟨b, o, x, rfl, hblt, hx, hcells⟩ := ((unhide HS).below hb (Nat.le_refl _)).cel hlt
      have hlt' : (k : Int) < n := by omega
      have p0 := hcells 0 _ rfl
      have p1 := hcells 1 _ rfl
      have p2 := hcells 2 _ rfl
      have p3 := hcells 3 _ rfl
      have p4 := hcells 4 _ rfl
      simp only [Nat.add_zero] at p0
      have hcall := isCol_any j B wr x (by have := unhide HB; omega) ((hb.cell (p := ⟨B, 0, none⟩) (unhide HB)).trans (unhide HC))
      have HX := hide hx
      clear hx hcells
      by_cases c1 : x.1 = j
      · rw [show (x.1 == j) = true by simpa using c1] at hcall
        have hend : ANS = (k : Int) := by
          rw [← unhide HA, (colN_at l 0 k x (unhide HX) c1 (unhide hall)).1, Nat.zero_add]
        subst hend
        clear c1
        go_wp2_with (go_at_fn 66; refine hcall.mono ?_; rintro e w1 ⟨rfl, hb1⟩)
        go_ret
        exact ⟨rfl, hb.trans (hb1.mono hbs)⟩
      · rw [show (x.1 == j) = false by simpa using c1] at hcall
        go_wp2_with (go_at_fn 66; refine hcall.mono ?_; rintro e w1 ⟨rfl, hb1⟩)
        go_roundw
        case rel => exact ⟨k + 1, by omega, by go_num, hb.trans (hb1.mono hbs), hide (fun m y hm hy => by
          by_cases e : m = k
          · subst e
            rw [unhide HX] at hy
            injection hy with hy
            subst hy
            exact c1
          · exact unhide hall m y (by omega) hy)⟩
        case measure => exact (by first | (simp [intOf]; done) | (simp [intOf]; omega))
    · have hge : (n : Int) ≤ (k : Int) := by omega
      have hend : ANS = -1 := by
        rw [← unhide HA]
        refine (colN_not l 0 (fun m y hy => unhide hall m y ?_ hy)).1
        have := (List.getElem?_eq_some_iff.1 hy).1
        have := unhide HLEN
        omega
      subst hend
      go_wp2_with fail
      go_ret
      exact ⟨rfl, hb⟩
/-- row.Get -/
theorem rowGet_any (w : World) (A : Option Addr) (n c : Nat) (l : List Cel) (j : Int) (h : Sl w 5 A n c (ccs l)) :
    Calls Tryd.prog 57 #[.slice A n c, .int .i64 j] w (Ret w (.agg #[.int .i64 (colV l j).kind, .int .i64 (colV l j).n, .int .i64 (colV l j).scale, .string ⟨(colV l j).s.toArray⟩])) := by
  have hlen : l.length = n := by have := h.len; rw [ccs_length] at this; omega
  have hn := h.nc
  have hm := h.cm
  unfold maxLen at hm
  have hi : ∀ (W : World) (B : Nat), Below w.heap.size w W → B < W.heap.size → W.cell? ⟨B, 0, none⟩ = some (.int .i64 j) → Calls Tryd.prog 65 #[.slice A n c, .func (.func 66) #[] #[.pointer (some ⟨B, 0, none⟩)]] W (Ret W (.int .i64 (colN j l 0))) :=
    fun W B hb hB hc => cellIdx_any j W A n c l (h.below hb (Nat.le_refl _)) B hB hc
  by_cases hx : ∃ (k : Nat) (x : Cel), l[k]? = some x ∧ x.1 = j ∧ ∀ m y, m < k → l[m]? = some y → y.1 ≠ j
  · obtain ⟨k, x, h1, h2, h3⟩ := hx
    obtain ⟨e1, e2⟩ := colN_at l 0 k x h1 h2 h3
    have hk : k < n := by
      have := (List.getElem?_eq_some_iff.1 h1).1
      omega
    rw [e2]
    simp only [e1, Nat.zero_add] at hi
    obtain ⟨b, o, y, rfl, hblt, hy, hcells⟩ := h.cel hk
    rw [h1] at hy
    injection hy with hy
    subst hy
    have p1 := hcells 1 _ rfl
    have p2 := hcells 2 _ rfl
    have p3 := hcells 3 _ rfl
    have p4 := hcells 4 _ rfl
    have hk' : (k : Int) < n := by omega
    have hk0 : ¬ ((k : Int) < 0) := by omega
    have HI := hide hi
    clear hcells h1 h2 h3 e1 e2 hi
    go_enter Tryd.func57, Tryd.ntmps57
    go_wp2_with (go_at_call 65; ((with_reducible refine (unhide HI _ _ ?_ ?_ ?_).mono ?_); (· exact ((Below.refl _ w).alloc (Nat.le_refl _) _).alloc (by simp) _); (· exact (by first | (simp; done) | (simp; omega))); (· exact (by first | (simp; done) | (simp [World.cell?]; done))); rintro e w1 ⟨rfl, hb⟩; have hbw : Below w.heap.size w w1 := (((Below.refl _ w).alloc (Nat.le_refl _) _).alloc (by simp) _).trans (hb.mono (by simp; omega)); obtain ⟨hb1, hb2, hb3⟩ := bcell hb; (try simp at hb3); clear hb; have q1 := (hbw.cell (p := ⟨b, o + k * 5 + 1, none⟩) hblt).trans p1; have q2 := (hbw.cell (p := ⟨b, o + k * 5 + 2, none⟩) hblt).trans p2; have q3 := (hbw.cell (p := ⟨b, o + k * 5 + 3, none⟩) hblt).trans p3; have q4 := (hbw.cell (p := ⟨b, o + k * 5 + 4, none⟩) hblt).trans p4))
    refine bodyPost_ret (v := .agg #[.int .i64 _, .int .i64 _, .int .i64 _, .string ⟨_⟩]) (by simp [results, Tryd.results57, go_sem, hb1, vnull]) rfl ⟨rfl, (((hbw.setCell (Nat.le_succ _) _).setCell (Nat.le_succ _) _).setCell (Nat.le_succ _) _).setCell (Nat.le_succ _) _⟩
  · have hnot : ∀ (m : Nat) (y : Cel), l[m]? = some y → y.1 ≠ j := by
      intro m
      induction m using Nat.strongRecOn with
      | ind m ih =>
        intro y hy he
        exact hx ⟨m, y, hy, he, fun m' y' hm' hy' => ih m' hm' y' hy'⟩
    obtain ⟨e1, e2⟩ := colN_not l 0 hnot
    rw [e2]
    simp only [e1] at hi
    have HI := hide hi
    clear hnot hx e1 e2 hi
    go_enter Tryd.func57, Tryd.ntmps57
    go_wp2_with (go_at_call 65; ((with_reducible refine (unhide HI _ _ ?_ ?_ ?_).mono ?_); (· exact ((Below.refl _ w).alloc (Nat.le_refl _) _).alloc (by simp) _); (· exact (by first | (simp; done) | (simp; omega))); (· exact (by first | (simp; done) | (simp [World.cell?]; done))); rintro e w1 ⟨rfl, hb⟩; have hbw : Below w.heap.size w w1 := (((Below.refl _ w).alloc (Nat.le_refl _) _).alloc (by simp) _).trans (hb.mono (by simp; omega)); obtain ⟨hb1, hb2, hb3⟩ := bcell hb; (try simp at hb3); clear hb))
    refine bodyPost_ret (v := .agg #[.int .i64 _, .int .i64 _, .int .i64 _, .string ⟨_⟩]) (by simp [results, Tryd.results57, go_sem, hb1, vnull]) rfl ⟨rfl, (((hbw.setCell (Nat.le_succ _) _).setCell (Nat.le_succ _) _).setCell (Nat.le_succ _) _).setCell (Nat.le_succ _) _⟩
end Go.Proofs.YtclhnfalebiieaaDoor
set_option linter.unusedVariables false
set_option linter.unusedSimpArgs false
set_option maxRecDepth 100000
namespace Go.Proofs.YtclhnfalebiieaaDoor
open Go.RowKit

/-! ## the value of a column -/
def getC {R : Type} (n : Nat) (c : List PV) (j : Int) (K : Val → Option R) : Option R := (decG 5 celG n c).bind fun l => bif decide (l.length ≤ 1000000) then K (colV l j) else none
theorem getC_eq {R : Type} {l : List Cel} {j : Int} {K : Val → Option R} (h : l.length ≤ 1000000) : getC l.length (celsC l) j K = K (colV l j) := by
  unfold getC
  rw [celsC, decG_of celC_len celG_of]
  exact cond_t (decide_eq_true h)
def valP (v : Val) : PV := .agg [.int .i64 v.kind, .int .i64 v.n, .int .i64 v.scale, .str v.s]
def p_colV : PFn := ⟨fun xs k => match xs with | [.sl _ 5 n c, .int .i64 j] => (decG 5 celG n c).bind fun l => bif decide (l.length ≤ 1000000) then k (valP (colV l j)) else none | _ => none, false⟩
theorem p_colV_nat : p_colV.nat := by
  intro R xs k
  simp only [p_colV]
  split
  · exact bindL_nat
  · rfl
/-- the reference's -/
def ixC {R : Type} (len : Nat) (c : List PV) (i : Int) (K : Int → Int → Int → Int → List UInt8 → Option R) : Option R :=
  bif decide (0 ≤ i) && decide (i < (len : Int)) then
    ((c.drop (i.toNat * 5)).take 5).head?.bind fun v => (PV.asInt .i64 v).bind fun j => ((c.drop (i.toNat * 5)).take 5).tail.head?.bind fun v => (PV.asInt .i64 v).bind fun a =>
    ((c.drop (i.toNat * 5)).take 5).tail.tail.head?.bind fun v => (PV.asInt .i64 v).bind fun n => ((c.drop (i.toNat * 5)).take 5).tail.tail.tail.head?.bind fun v => (PV.asInt .i64 v).bind fun b =>
    ((c.drop (i.toNat * 5)).take 5).tail.tail.tail.tail.head?.bind fun v => v.asStr.bind fun s => K j a n b s else none
theorem ixC_eq {R : Type} {l : List Cel} {i : Nat} {x : Cel} {K : Int → Int → Int → Int → List UInt8 → Option R} (h : l[i]? = some x) : ixC l.length (celsC l) (i : Int) K = K x.1 x.2.kind x.2.n x.2.scale x.2.s := by
  have := (List.getElem?_eq_some_iff.1 h).1
  unfold ixC
  rw [cond_t (by rw [decide_eq_true (by omega), decide_eq_true (by omega)]; rfl), Int.toNat_natCast, celsC, flat_at celC_len h]
  rfl
def hRc : Hints := ⟨[], [(0, ⟨[(1, false), (4, false), (7, false), (8, false), (9, false)], [4]⟩)]⟩
def frRc (j : Int) (n0 : Option Bool) (l0 : Nat) (c0 : List PV) (L i : Int) : St := frame 21 [(1, (.int .i64 j, 0)), (4, (.ptr 4 0, 0)), (7, (.sl n0 5 l0 c0, 0)), (8, (.int .i64 L, 0)), (9, (.int .i64 i, 0))] [(4, [(.int .i64 0, 0), (.int .i64 0, 0), (.int .i64 0, 0), (.str [], 0)])]
noncomputable def rcLoop (fu n : Nat) (st : St) : Option PV := loopF (en []) hRc fu false Tryd.f46 [1, 0, 1, 0] 0 n st
theorem rcv_raw (fu : Nat) (n0 : Option Bool) (l0 : Nat) (c0 : List PV) (j : Int) : prun (en []) hRc fu false Tryd.f46 [.sl n0 5 l0 c0, .int .i64 j] = rcLoop fu fu (frRc j n0 l0 c0 (l0 : Int) 0) := prunN_eq.trans (by kernel_rfl)
theorem rcv_step (fu : Nat) (j : Int) (n0 : Option Bool) (l0 : Nat) (c0 : List PV) (L i : Int) (K : St → Option PV) :
    stepF (en []) hRc fu false Tryd.f46 [1, 0, 1, 0] (frRc j n0 l0 c0 L i) (fun st => pnorm (hRc.loop.lookup 0) st K) =
    bif decide (i < L) then ixC l0 c0 i fun q a n b s => bif q == j then some (.agg [.int .i64 a, .int .i64 n, .int .i64 b, .str s]) else K (frRc j n0 l0 c0 L (IntKind.i64.wrap (i + 1)))
    else some (.agg [.int .i64 0, .int .i64 0, .int .i64 0, .str []]) := by kernel_rfl
theorem rcv_loop (fu : Nat) (j : Int) (n0 : Option Bool) (l : List Cel) (hl : l.length ≤ 1000000) : ∀ (k i n : Nat), i + k = l.length → k < n → rcLoop fu n (frRc j n0 l.length (celsC l) (l.length : Int) (i : Int)) = some (valP (colV (l.drop i) j))
  | k, i, 0, _, h => by omega
  | 0, i, n + 1, hi, hn => by
    unfold rcLoop
    rw [loopF_succ, rcv_step, cond_f (decide_eq_false (by omega)), List.drop_of_length_le (by omega)]
    rfl
  | k + 1, i, n + 1, hi, hn => by
    unfold rcLoop
    have hc := List.getElem?_eq_getElem (l := l) (i := i) (by omega)
    have ih := rcv_loop fu j n0 l hl k (i + 1) n (by omega) (by omega)
    unfold rcLoop at ih
    rw [loopF_succ, rcv_step, cond_t (decide_eq_true (by omega)), ixC_eq hc, wrapI_of (by omega) (by omega), List.drop_eq_getElem_cons (show i < l.length by omega), colV]
    by_cases hx : l[i].1 = j
    · rw [cond_t (by simpa using hx), if_pos hx]; rfl
    · rw [cond_f (by simpa using hx), if_neg hx]
      exact ih
theorem ok_refGet : FOK NGk Tabs 46 p_colV := by
  refine fok wokk allOK_nil (h := hRc) Tryd.func46 rfl (by decide) p_colV_nat ?_
  intro xs r h
  simp only [p_colV] at h
  split at h
  · rename_i nl n c j
    obtain ⟨l, h1, hg, rfl⟩ := bindL_inv h
    obtain ⟨rfl, rfl⟩ := decG_inv celG_inv h1
    simp only [decide_eq_true_eq] at hg
    exact ⟨l.length + 1, (rcv_raw _ nl _ _ j).trans (rcv_loop _ j nl l hg l.length 0 _ (by omega) (by omega))⟩
  · cases h
/-! ## Values -/
def colC (l : List Int) : List PV := l.flatMap fun j => [.int .i64 j]
def intG : List PV → Option Int
  | [.int .i64 j] => some j
  | _ => none
theorem intG_inv (l : List PV) (j : Int) (h : intG l = some j) : l = [.int .i64 j] := by
  unfold intG at h
  split at h
  · injection h with h; subst h; rfl
  · cases h
def ixI {R : Type} (len : Nat) (c : List PV) (i : Int) (K : Int → Option R) : Option R :=
  bif decide (0 ≤ i) && decide (i < (len : Int)) then ((c.drop (i.toNat * 1)).take 1).head?.bind fun v => (PV.asInt .i64 v).bind K else none
theorem ixI_eq {R : Type} {l : List Int} {i : Nat} {x : Int} {K : Int → Option R} (h : l[i]? = some x) : ixI l.length (colC l) (i : Int) K = K x := by
  have := (List.getElem?_eq_some_iff.1 h).1
  unfold ixI
  rw [cond_t (by rw [decide_eq_true (by omega), decide_eq_true (by omega)]; rfl), Int.toNat_natCast, colC, flat_at (f := fun j => [PV.int .i64 j]) (sz := 1) (fun _ => rfl) h]
  rfl
def hVa : Hints := ⟨[], [(0, ⟨[(1, false), (5, true), (9, false), (10, false), (11, false)], []⟩)]⟩
def frVa (n1 : Option Bool) (l1 : Nat) (c1 : List PV) (n5 : Option Bool) (l5 : Nat) (c5 : List PV) (n9 : Option Bool) (l9 : Nat) (c9 : List PV) (L i : Int) : St :=
  frame 23 [(1, (.sl n1 5 l1 c1, 0)), (5, (.sl n5 4 l5 c5, 30)), (9, (.sl n9 1 l9 c9, 0)), (10, (.int .i64 L, 0)), (11, (.int .i64 i, 0))] []
def vaBody (l1 : Nat) (c1 : List PV) (n5 : Option Bool) (l5 : Nat) (c5 : List PV) (l9 : Nat) (c9 : List PV) (L i : Int) (G : Option Bool → Nat → List PV → Int → Option PV) : Option PV :=
  bif decide (i < L) then ixI l9 c9 i fun j => getC l1 c1 j fun v => roomV l5 1 (G (n5.map (· && false)) (l5 + 1) (c5 ++ V4.cs v) (IntKind.i64.wrap (i + 1))) else some (.sl n5 4 l5 c5)
def valsOf (cols : List Int) (l : List Cel) : List Val := cols.map (colV l)
noncomputable def lVr : List (FuncId × PFn) := [(46, p_colV)]
noncomputable def lVi : List (FuncId × PFn) := [(57, p_colV)]
noncomputable def vrLoop (own : Bool) (fu n : Nat) (st : St) : Option PV := loopF (en lVr) hVa fu own Tryd.f30 [1, 1, 0, 1, 0] 0 n st
noncomputable def viLoop (fu n : Nat) (st : St) : Option PV := loopF (en lVi) hVa fu false Tryd.f43 [1, 1, 0, 1, 0] 0 n st
theorem vr_raw (fu : Nat) (x0 : Int) (x1 : List UInt8) (n9 : Option Bool) (l9 : Nat) (c9 : List PV) (x3 : Bool) (x4 : Int) (n1 : Option Bool) (l1 : Nat) (c1 : List PV) :
    prun (en lVr) hVa fu true Tryd.f30 [.agg [.int .i64 x0, .str x1, .sl n9 1 l9 c9, .bool x3, .int .i64 x4], .sl n1 5 l1 c1] = vrLoop true fu fu (frVa n1 l1 c1 (some true) 0 [] n9 l9 c9 (l9 : Int) 0) := prunN_eq.trans (by kernel_rfl)
theorem vr_step (fu : Nat) (n1 : Option Bool) (l1 : Nat) (c1 : List PV) (n5 : Option Bool) (l5 : Nat) (c5 : List PV) (n9 : Option Bool) (l9 : Nat) (c9 : List PV) (L i : Int) (K : St → Option PV) :
    stepF (en lVr) hVa fu true Tryd.f30 [1, 1, 0, 1, 0] (frVa n1 l1 c1 n5 l5 c5 n9 l9 c9 L i) (fun st => pnorm (hVa.loop.lookup 0) st K) = vaBody l1 c1 n5 l5 c5 l9 c9 L i (fun a b c d => K (frVa n1 l1 c1 a b c n9 l9 c9 L d)) := by kernel_rfl
theorem vi_raw (fu : Nat) (x0 : Int) (x1 : List UInt8) (n9 : Option Bool) (l9 : Nat) (c9 : List PV) (x3 : Bool) (x4 : Int) (n1 : Option Bool) (l1 : Nat) (c1 : List PV) :
    prun (en lVi) hVa fu false Tryd.f43 [.agg [.int .i64 x0, .str x1, .sl n9 1 l9 c9, .bool x3, .int .i64 x4], .sl n1 5 l1 c1] = viLoop fu fu (frVa n1 l1 c1 (some true) 0 [] n9 l9 c9 (l9 : Int) 0) := prunN_eq.trans (by kernel_rfl)
theorem vi_step (fu : Nat) (n1 : Option Bool) (l1 : Nat) (c1 : List PV) (n5 : Option Bool) (l5 : Nat) (c5 : List PV) (n9 : Option Bool) (l9 : Nat) (c9 : List PV) (L i : Int) (K : St → Option PV) :
    stepF (en lVi) hVa fu false Tryd.f43 [1, 1, 0, 1, 0] (frVa n1 l1 c1 n5 l5 c5 n9 l9 c9 L i) (fun st => pnorm (hVa.loop.lookup 0) st K) = vaBody l1 c1 n5 l5 c5 l9 c9 L i (fun a b c d => K (frVa n1 l1 c1 a b c n9 l9 c9 L d)) := by kernel_rfl
theorem va_loop (F : Nat → St → Option PV) (n1 : Option Bool) (cels : List Cel) (hcl : cels.length ≤ 1000000) (n9 : Option Bool) (cols : List Int) (hco : cols.length ≤ 1000000)
    (hF : ∀ n n5 l5 c5 (i : Int), F (n + 1) (frVa n1 cels.length (celsC cels) n5 l5 c5 n9 cols.length (colC cols) (cols.length : Int) i) = vaBody cels.length (celsC cels) n5 l5 c5 cols.length (colC cols) (cols.length : Int) i (fun a b c d => F n (frVa n1 cels.length (celsC cels) a b c n9 cols.length (colC cols) (cols.length : Int) d))) :
    ∀ (k i n : Nat), i + k = cols.length → k < n → F n (frVa n1 cels.length (celsC cels) (some ((cols.take i).isEmpty)) i (valsC (valsOf (cols.take i) cels)) n9 cols.length (colC cols) (cols.length : Int) (i : Int)) =
      some (.sl (some cols.isEmpty) 4 cols.length (valsC (valsOf cols cels)))
  | k, i, 0, _, h => by omega
  | 0, i, n + 1, hi, hn => by
    rw [hF]
    unfold vaBody
    rw [cond_f (decide_eq_false (by omega)), List.take_of_length_le (by omega), show i = cols.length by omega]
  | k + 1, i, n + 1, hi, hn => by
    have hc := List.getElem?_eq_getElem (l := cols) (i := i) (by omega)
    have ih := va_loop F n1 cels hcl n9 cols hco hF k (i + 1) n (by omega) (by omega)
    have e : valsOf (cols.take (i + 1)) cels = valsOf (cols.take i) cels ++ [colV cels cols[i]] := by
      unfold valsOf
      rw [List.take_add_one, hc, List.map_append]; rfl
    have e2 : (cols.take (i + 1)).isEmpty = false := by
      rw [List.take_add_one, hc]
      cases cols.take i <;> rfl
    rw [e, e2, ← valsC_snoc] at ih
    rw [hF]
    unfold vaBody
    rw [cond_t (decide_eq_true (by omega)), ixI_eq hc, getC_eq hcl, roomV_eq (by omega), wrapI_of (by omega) (by omega)]
    simp only [Option.map_some, Bool.and_false]
    exact ih
def valsK (n9 : Nat) (c9 : List PV) (n1 : Nat) (c1 : List PV) : Option (List Int × List Cel) := (decG 1 intG n9 c9).bind fun cols => (decG 5 celG n1 c1).bind fun l => if cols.length ≤ 1000000 ∧ l.length ≤ 1000000 then some (cols, l) else none
def valsR (p : List Int × List Cel) : PV := .sl (some p.1.isEmpty) 4 p.1.length (valsC (valsOf p.1 p.2))
def f_Values {R : Type} (xs : List PV) (k : PV → Option R) : Option R := match xs with | [.agg [.int .i64 _, .str _, .sl _ 1 n9 c9, .bool _, .int .i64 _], .sl _ 5 n1 c1] => (valsK n9 c9 n1 c1).bind fun p => k (valsR p) | _ => none
def p_Values : PFn := ⟨f_Values, false⟩
def p_ValuesO : PFn := ⟨f_Values, true⟩
theorem f_Values_nat : p_Values.nat := by
  intro R xs k
  simp only [p_Values, f_Values]
  split
  · cases valsK _ _ _ _ <;> rfl
  · rfl
theorem valsK_inv {n9 : Nat} {c9 : List PV} {n1 : Nat} {c1 : List PV} {p : List Int × List Cel} (h : valsK n9 c9 n1 c1 = some p) : n9 = p.1.length ∧ c9 = colC p.1 ∧ n1 = p.2.length ∧ c1 = celsC p.2 ∧ p.1.length ≤ 1000000 ∧ p.2.length ≤ 1000000 := by
  unfold valsK at h
  obtain ⟨cols, h1, h⟩ := Option.bind_eq_some_iff.1 h
  obtain ⟨l, h2, h⟩ := Option.bind_eq_some_iff.1 h
  split at h
  · rename_i hl
    injection h with h
    subst h
    obtain ⟨e1, e2⟩ := decG_inv intG_inv h1
    obtain ⟨e3, e4⟩ := decG_inv celG_inv h2
    exact ⟨e1, e2, e3, e4, hl⟩
  · cases h
theorem ok_ValuesO (hr : FOK NGk Tabs 46 p_colV) : FOK NGk Tabs 30 p_ValuesO := by
  refine fok wokk (allOK_cons hr allOK_nil) (h := hVa) Tryd.func30 rfl (by decide) f_Values_nat ?_
  intro xs r h
  simp only [p_ValuesO, f_Values] at h
  split at h
  · rename_i x0 x1 n9 l9 c9 x3 x4 n1 l1 c1
    obtain ⟨p, h1, h2⟩ := Option.bind_eq_some_iff.1 h
    injection h2 with h2
    subst h2
    obtain ⟨rfl, rfl, rfl, rfl, g1, g2⟩ := valsK_inv h1
    refine ⟨p.1.length + 1, (vr_raw _ x0 x1 n9 _ _ x3 x4 n1 _ _).trans ?_⟩
    exact va_loop (fun n st => vrLoop true (p.1.length + 1) n st) n1 p.2 g2 n9 p.1 g1 (fun n n5 l5 c5 i => by unfold vrLoop; rw [loopF_succ, vr_step]) p.1.length 0 _ (by omega) (by omega)
  · cases h
theorem fok_noown {NG : Nat} {W : World → Prop} {f : FuncId} {p : PFn} (hp : FOK NG W f p) : FOK NG W f ⟨p.F, false⟩ where
  nat := hp.nat
  call := by
    intro M xs vs r hW hng hg hr hF
    have k := hp.call M xs vs r hW hng hg hr hF
    refine k.imp ?_ ?_
    · rintro ⟨v, w', h1, U', h2, h3, _⟩
      exact ⟨v, w', h1, U', h2, h3, fun e => by cases e⟩
    · rintro ⟨h0, h1⟩
      refine ⟨h0, h1.mono ?_⟩
      rintro e w' ⟨v, h2, U', h3, h4, _⟩
      exact ⟨v, h2, U', h3, h4, fun e => by cases e⟩
theorem ok_Values (hr : FOK NGk Tabs 46 p_colV) : FOK NGk Tabs 30 p_Values := fok_noown (ok_ValuesO hr)
theorem ok_IValues (hr : FOK NGk Tabs 57 p_colV) : FOK NGk Tabs 43 p_Values := by
  refine fok wokk (allOK_cons hr allOK_nil) (h := hVa) Tryd.func43 rfl (by decide) f_Values_nat ?_
  intro xs r h
  simp only [p_Values, f_Values] at h
  split at h
  · rename_i x0 x1 n9 l9 c9 x3 x4 n1 l1 c1
    obtain ⟨p, h1, h2⟩ := Option.bind_eq_some_iff.1 h
    injection h2 with h2
    subst h2
    obtain ⟨rfl, rfl, rfl, rfl, g1, g2⟩ := valsK_inv h1
    refine ⟨p.1.length + 1, (vi_raw _ x0 x1 n9 _ _ x3 x4 n1 _ _).trans ?_⟩
    exact va_loop (fun n st => viLoop (p.1.length + 1) n st) n1 p.2 g2 n9 p.1 g1 (fun n n5 l5 c5 i => by unfold viLoop; rw [loopF_succ, vi_step]) p.1.length 0 _ (by omega) (by omega)
  · cases h
end Go.Proofs.YtclhnfalebiieaaDoor
set_option linter.unusedVariables false
set_option linter.unusedSimpArgs false
set_option maxRecDepth 100000
namespace Go.Proofs.YtclhnfalebiieaaDoor
open Go.RowKit

/-! ## index.number, begin, span -/
theorem nv_raw (n : Int) : prun (en []) ⟨[], []⟩ 0 false Tryd.f44 [.int .i64 n] = some (.agg [.int .i64 2, .int .i64 n, .int .i64 0, .str []]) := by kernel_rfl
def p_numV : PFn := ⟨fun xs k => match xs with | [.int .i64 n] => k (.agg [.int .i64 2, .int .i64 n, .int .i64 0, .str []]) | _ => none, false⟩
theorem ok_numV : FOK NGk Tabs 44 p_numV := by
  refine fok wokk allOK_nil (h := ⟨[], []⟩) Tryd.func44 rfl (by decide) ?_ ?_
  · intro R xs k
    simp only [p_numV]
    split <;> rfl
  · intro xs r h
    simp only [p_numV] at h
    split at h
    · exact ⟨0, (nv_raw _).trans h⟩
    · cases h
noncomputable def lBg : List (FuncId × PFn) := [(44, p_numV)]
def bgC (a b : Int) (c : List PV) : List PV := .int .i64 2 :: .int .i64 a :: .int .i64 0 :: .str [] :: .int .i64 2 :: .int .i64 b :: .int .i64 0 :: .str [] :: c
theorem bg_raw (a b : Int) (n2 : Option Bool) (l2 : Nat) (c2 : List PV) : prun (en lBg) ⟨[], []⟩ 0 true Tryd.f42 [.int .i64 a, .int .i64 b, .sl n2 4 l2 c2] =
    roomV 2 l2 (some (.sl (some false) 4 (2 + l2) (bgC a b c2))) := by kernel_rfl
def p_begin : PFn := ⟨fun xs k => match xs with | [.int .i64 a, .int .i64 b, .sl _ 4 n c] => bif decide (n ≤ 1000000) then k (.sl (some false) 4 (2 + n) (bgC a b c)) else none | _ => none, true⟩
theorem ok_begin : FOK NGk Tabs 42 p_begin := by
  refine fok wokk (allOK_cons ok_numV allOK_nil) (h := ⟨[], []⟩) Tryd.func42 rfl (by decide) ?_ ?_
  · intro R xs k
    simp only [p_begin]
    split
    · exact cond_nat
    · rfl
  · intro xs r h
    simp only [p_begin] at h
    split at h
    · rename_i a b nl n c
      rcases hb : decide (n ≤ 1000000) with _ | _ <;> rw [hb] at h
      · cases h
      · simp only [decide_eq_true_eq] at hb
        exact ⟨0, (bg_raw a b nl n c).trans ((roomV_eq (by omega)).trans h)⟩
    · cases h
theorem bgC_vals (a b : Int) (l : List Val) : bgC a b (valsC l) = valsC (numV a :: numV b :: l) := rfl
def p_Above : PFn := ⟨fun xs k => match xs with | [.sl _ 1 n c] => (decY n c).bind fun l => bif decide (l.length ≤ 1000000) then k (.sl none 1 (aboveL l).length (bC (aboveL l))) else none | _ => none, false⟩
theorem ok_Above : FOK NGk Tabs 23 p_Above := by
  refine fok_new Tryd.func23 (by kernel_rfl) (by decide) ?_ rfl ?_
  · intro R xs k
    simp only [p_Above]
    split
    · exact bindY_nat
    · rfl
  · intro xs r M vs hW h hr
    simp only [p_Above] at h
    split at h
    · rename_i nl n c
      obtain ⟨l, h1, hg, rfl⟩ := bindY_inv h
      obtain ⟨rfl, rfl⟩ := decY_inv h1
      simp only [decide_eq_true_eq] at hg
      obtain ⟨v, rfl, h2⟩ := relT1 hr
      obtain ⟨A, c, rfl, hs⟩ := sl_bytes h2
      refine (keysAbove_any M.w A l.length c l hs hg).mono ?_
      rintro e w' ⟨A', c', rfl, ho, _, hbl⟩
      exact ⟨_, rfl, hbl, fun U' hU => rel_own ho hU⟩
    · cases h
def abO {R : Type} (n : Nat) (c : List PV) (K : List UInt8 → Option R) : Option R := (decY n c).bind fun l => bif decide (l.length ≤ 1000000) then K (aboveL l) else none
theorem abO_eq {R : Type} {l : List UInt8} {K : List UInt8 → Option R} (h : l.length ≤ 1000000) : abO l.length (bC l) K = K (aboveL l) := by
  unfold abO; rw [decY_bC]; exact cond_t (decide_eq_true h)
theorem sp_raw (s : List UInt8) : prun (en [(23, p_Above)]) ⟨[], []⟩ 0 false Tryd.f45 [.str s] =
    bif decide (s.length ≤ 9223372036854775807) then abO s.length (bC s) fun a => (pbytes (bC a)).bind fun t => some (.tuple [.str s, .str t]) else none := by kernel_rfl
def p_span : PFn := ⟨fun xs k => match xs with | [.str s] => bif decide (s.length ≤ 1000000) then k (.tuple [.str s, .str (aboveL s)]) else none | _ => none, false⟩
theorem ok_span : FOK NGk Tabs 45 p_span := by
  refine fok wokk (allOK_cons ok_Above allOK_nil) (h := ⟨[], []⟩) Tryd.func45 rfl (by decide) ?_ ?_
  · intro R xs k
    simp only [p_span]
    split
    · exact cond_nat
    · rfl
  · intro xs r h
    simp only [p_span] at h
    split at h
    · rename_i s
      rcases hb : decide (s.length ≤ 1000000) with _ | _ <;> rw [hb] at h
      · cases h
      · simp only [decide_eq_true_eq] at hb
        refine ⟨0, (sp_raw s).trans ?_⟩
        rw [cond_t (decide_eq_true (by omega)), abO_eq hb, pbytes_bC]
        exact h
    · cases h
/-! ## Entry, Span -/
noncomputable def lEn : List (FuncId × PFn) := [(43, p_Values), (42, p_begin), (44, p_numV), (12, p_KeysPut)]
def bgO {R : Type} (n : Nat) (k : Option R) : Option R := bif decide (n ≤ 1000000) then k else none
def valsO {R : Type} (n9 : Nat) (c9 : List PV) (n1 : Nat) (c1 : List PV) (K : List Int × List Cel → Option R) : Option R := (valsK n9 c9 n1 c1).bind K
theorem valsK_of {cols : List Int} {l : List Cel} (h1 : cols.length ≤ 1000000) (h2 : l.length ≤ 1000000) : valsK cols.length (colC cols) l.length (celsC l) = some (cols, l) := by
  unfold valsK
  rw [colC, decG_of (f := fun j => [PV.int .i64 j]) (sz := 1) (fun _ => rfl) (fun _ => rfl), celsC, decG_of celC_len celG_of]
  exact if_pos ⟨h1, h2⟩
theorem en_raw (t x0 : Int) (x1 : List UInt8) (n9 : Option Bool) (l9 : Nat) (c9 : List PV) (x3 : Bool) (x4 : Int) (r0 : Int) (n1 : Option Bool) (l1 : Nat) (c1 : List PV) :
    prun (en lEn) ⟨[], []⟩ 0 false Tryd.f28 [.int .i64 t, .agg [.int .i64 x0, .str x1, .sl n9 1 l9 c9, .bool x3, .int .i64 x4], .agg [.int .i64 r0, .sl n1 5 l1 c1]] =
    valsO l9 c9 l1 c1 fun p => bgO p.1.length (roomV (2 + p.1.length) 1 (putO (2 + p.1.length + 1) (bgC t x0 (valsC (valsOf p.1 p.2)) ++ [.int .i64 2, .int .i64 r0, .int .i64 0, .str []]) fun y => (pbytes (bC y)).bind fun s => catO [105] s (some (.str (105 :: s))))) := by kernel_rfl
def entL (t x0 : Int) (cols : List Int) (l : List Cel) (r0 : Int) : List UInt8 := 105 :: encs (numV t :: numV x0 :: (valsOf cols l ++ [numV r0]))
def entK (n9 : Nat) (c9 : List PV) (n1 : Nat) (c1 : List PV) : Option (List Int × List Cel) := (valsK n9 c9 n1 c1).bind fun p => if p.1.length ≤ 90000 then some p else none
def p_Entry : PFn := ⟨fun xs k => match xs with | [.int .i64 t, .agg [.int .i64 x0, .str _, .sl _ 1 n9 c9, .bool _, .int .i64 _], .agg [.int .i64 r0, .sl _ 5 n1 c1]] => (entK n9 c9 n1 c1).bind fun p => k (.str (entL t x0 p.1 p.2 r0)) | _ => none, false⟩
theorem valsOf_len (cols : List Int) (l : List Cel) : (valsOf cols l).length = cols.length := by simp [valsOf]
theorem ok_Entry (hr : FOK NGk Tabs 57 p_colV) : FOK NGk Tabs 28 p_Entry := by
  refine fok wokk (allOK_cons (ok_IValues hr) (allOK_cons ok_begin (allOK_cons ok_numV (allOK_cons ok_KeysPut allOK_nil)))) (h := ⟨[], []⟩) Tryd.func28 rfl (by decide) ?_ ?_
  · intro R xs k
    simp only [p_Entry]
    split
    · cases entK _ _ _ _ <;> rfl
    · rfl
  · intro xs r h
    simp only [p_Entry] at h
    split at h
    · rename_i t x0 x1 n9 l9 c9 x3 x4 r0 n1 l1 c1
      obtain ⟨p, h1, h2⟩ := Option.bind_eq_some_iff.1 h
      injection h2 with h2
      subst h2
      unfold entK at h1
      obtain ⟨q, h4, h3⟩ := Option.bind_eq_some_iff.1 h1
      split at h3
      · rename_i hl
        injection h3 with h3
        subst h3
        refine ⟨0, (en_raw t x0 x1 n9 l9 c9 x3 x4 r0 n1 l1 c1).trans ?_⟩
        unfold valsO
        rw [h4]
        obtain ⟨cols, l⟩ := q
        simp only at hl
        simp only [Option.bind_some]
        have e : bgC t x0 (valsC (valsOf cols l)) ++ [PV.int .i64 2, .int .i64 r0, .int .i64 0, .str []] = valsC (numV t :: numV x0 :: (valsOf cols l ++ [numV r0])) := by
          rw [bgC_vals, show [PV.int .i64 2, .int .i64 r0, .int .i64 0, .str []] = V4.cs (numV r0) from rfl, valsC_snoc]; rfl
        have el : 2 + cols.length + 1 = (numV t :: numV x0 :: (valsOf cols l ++ [numV r0])).length := by simp only [List.length_cons, List.length_append, List.length_nil, valsOf_len]; omega
        have hle := encs_length (numV t :: numV x0 :: (valsOf cols l ++ [numV r0]))
        rw [bgO, cond_t (decide_eq_true (by omega)), roomV_eq (by omega), e, el, putO_eq (by rw [← el]; omega), pbytes_bC]
        simp only [Option.bind_some]
        rw [catO_eq (by rw [← el] at hle; simp only [List.length_cons, List.length_nil]; omega)]
        rfl
      · cases h3
    · cases h
noncomputable def lSp : List (FuncId × PFn) := [(42, p_begin), (12, p_KeysPut), (45, p_span)]
def spO {R : Type} (s : List UInt8) (K : List UInt8 → Option R) : Option R := bif decide (s.length ≤ 1000000) then K (aboveL s) else none
theorem ss_raw (t x0 : Int) (n2 : Option Bool) (l2 : Nat) (c2 : List PV) : prun (en lSp) ⟨[], []⟩ 0 false Tryd.f29 [.int .i64 t, .int .i64 x0, .sl n2 4 l2 c2] =
    bgO l2 (putO (2 + l2) (bgC t x0 c2) fun y => (pbytes (bC y)).bind fun s => catO [105] s (spO (105 :: s) fun a => some (.tuple [.str (105 :: s), .str a]))) := by kernel_rfl
def fromL (t x0 : Int) (l : List Val) : List UInt8 := 105 :: encs (numV t :: numV x0 :: l)
def p_Span : PFn := ⟨fun xs k => match xs with | [.int .i64 t, .int .i64 x0, .sl _ 4 n c] => (decV n c).bind fun l => bif decide (l.length ≤ 1000) then k (.tuple [.str (fromL t x0 l), .str (aboveL (fromL t x0 l))]) else none | _ => none, false⟩
theorem ok_Span : FOK NGk Tabs 29 p_Span := by
  refine fok wokk (allOK_cons ok_begin (allOK_cons ok_KeysPut (allOK_cons ok_span allOK_nil))) (h := ⟨[], []⟩) Tryd.func29 rfl (by decide) ?_ ?_
  · intro R xs k
    simp only [p_Span]
    split
    · exact bindV_nat
    · rfl
  · intro xs r h
    simp only [p_Span] at h
    split at h
    · rename_i t x0 nl n c
      obtain ⟨l, h1, hg, rfl⟩ := bindV_inv h
      obtain ⟨rfl, rfl⟩ := decV_inv h1
      simp only [decide_eq_true_eq] at hg
      refine ⟨0, (ss_raw t x0 nl _ _).trans ?_⟩
      have hle := encs_length (numV t :: numV x0 :: l)
      have el : 2 + l.length = (numV t :: numV x0 :: l).length := by simp only [List.length_cons]; omega
      rw [bgO, cond_t (decide_eq_true (by omega)), bgC_vals, el, putO_eq (by rw [← el]; omega), pbytes_bC]
      simp only [Option.bind_some]
      rw [← el] at hle
      rw [catO_eq (by simp only [List.length_cons, List.length_nil]; omega), spO, cond_t (decide_eq_true (by simp only [List.length_cons]; omega))]
      rfl
    · cases h
/-! ## Small, Right -/
def celOK (c : Cel) : Bool := !decide (250 < c.2.s.length)
def hSm : Hints := ⟨[], [(2, ⟨[(10, false), (11, false), (12, false), (21, false), (22, false), (23, false)], []⟩), (0, ⟨[(10, false), (11, false), (12, false)], []⟩)]⟩
/-- a right row: rising columns, right values, no nulls -/
def rowR : Int → List Cel → Bool
  | _, [] => true
  | was, c :: l => bif decide (c.1 ≤ was) || c.2.kind == 0 then false else bif right c.2 then rowR c.1 l else false
def hRr : Hints := ⟨[], [(0, ⟨[(3, false), (6, false), (7, false), (8, false)], []⟩)]⟩
def frRr (was : Int) (n0 : Option Bool) (l0 : Nat) (c0 : List PV) (L i : Int) : St := frame 31 [(3, (.int .i64 was, 0)), (6, (.sl n0 5 l0 c0, 0)), (7, (.int .i64 L, 0)), (8, (.int .i64 i, 0))] []
noncomputable def lRr : List (FuncId × PFn) := [(20, p_rightV)]
noncomputable def rrLoop (fu n : Nat) (st : St) : Option PV := loopF (en lRr) hRr fu false Tryd.f27 [1, 1, 0, 1, 0] 0 n st
theorem rr_raw (fu : Nat) (n0 : Option Bool) (l0 : Nat) (c0 : List PV) : prun (en lRr) hRr fu false Tryd.f27 [.sl n0 5 l0 c0] = rrLoop fu fu (frRr (-1) n0 l0 c0 (l0 : Int) 0) := prunN_eq.trans (by kernel_rfl)
def rightO' {R : Type} (a n c : Int) (s : List UInt8) (K : Bool → Option R) : Option R := bif decide (s.length ≤ 1000000) then K (rightB a n c s) else none
theorem rr_step (fu : Nat) (was : Int) (n0 : Option Bool) (l0 : Nat) (c0 : List PV) (L i : Int) (K : St → Option PV) :
    stepF (en lRr) hRr fu false Tryd.f27 [1, 1, 0, 1, 0] (frRr was n0 l0 c0 L i) (fun st => pnorm (hRr.loop.lookup 0) st K) =
    bif decide (i < L) then ixC l0 c0 i fun q a n b s => bif !(decide (q ≤ was) || a == 0) then rightO' a n b s fun g => bif !g then some (.bool false) else K (frRr q n0 l0 c0 L (IntKind.i64.wrap (i + 1))) else some (.bool false)
    else some (.bool true) := by kernel_rfl
theorem rr_loop (fu : Nat) (n0 : Option Bool) (l : List Cel) (hl : l.length ≤ 1000000) (hs : ∀ c ∈ l, c.2.s.length ≤ 1000000) : ∀ (k i n : Nat) (was : Int), i + k = l.length → k < n →
    rrLoop fu n (frRr was n0 l.length (celsC l) (l.length : Int) (i : Int)) = some (.bool (rowR was (l.drop i)))
  | k, i, 0, _, _, h => by omega
  | 0, i, n + 1, was, hi, hn => by
    unfold rrLoop
    rw [loopF_succ, rr_step, cond_f (decide_eq_false (by omega)), List.drop_of_length_le (by omega)]
    rfl
  | k + 1, i, n + 1, was, hi, hn => by
    unfold rrLoop
    have hc := List.getElem?_eq_getElem (l := l) (i := i) (by omega)
    have hsc := hs l[i] (List.getElem_mem _)
    have ih := rr_loop fu n0 l hl hs k (i + 1) n l[i].1 (by omega) (by omega)
    unfold rrLoop at ih
    rw [loopF_succ, rr_step, cond_t (decide_eq_true (by omega)), ixC_eq hc, wrapI_of (by omega) (by omega), List.drop_eq_getElem_cons (show i < l.length by omega), rowR, rightO', cond_t (decide_eq_true hsc), right_B]
    cases decide (l[i].1 ≤ was) || l[i].2.kind == 0
    · cases right l[i].2
      · rfl
      · exact ih
    · rfl
def p_rowR : PFn := ⟨fun xs k => match xs with | [.sl _ 5 n c] => (decG 5 celG n c).bind fun l => bif decide (l.length ≤ 1000000) && l.all (fun c => decide (c.2.s.length ≤ 1000000)) then k (.bool (rowR (-1) l)) else none | _ => none, false⟩
theorem ok_rowR : FOK NGk Tabs 27 p_rowR := by
  refine fok wokk (allOK_cons ok_rightR allOK_nil) (h := hRr) Tryd.func27 rfl (by decide) ?_ ?_
  · intro R xs k
    simp only [p_rowR]
    split
    · exact bindL_nat
    · rfl
  · intro xs r h
    simp only [p_rowR] at h
    split at h
    · rename_i nl n c
      obtain ⟨l, h1, hg, rfl⟩ := bindL_inv h
      obtain ⟨rfl, rfl⟩ := decG_inv celG_inv h1
      simp only [Bool.and_eq_true, decide_eq_true_eq, List.all_eq_true] at hg
      exact ⟨l.length + 1, (rr_raw _ nl _ _).trans (rr_loop _ nl l hg.1 hg.2 l.length 0 _ (-1) (by omega) (by omega))⟩
    · cases h
end Go.Proofs.YtclhnfalebiieaaDoor
set_option linter.unusedVariables false
set_option linter.unusedSimpArgs false
set_option maxRecDepth 100000
namespace Go.Proofs.YtclhnfalebiieaaDoor
open Go.RowKit

/-- row.Get by its walk -/
theorem ok_rowGet : FOK NGk Tabs 57 p_colV := by
  refine fok_calls Tryd.func57 (by kernel_rfl) (by decide) p_colV_nat rfl ?_
  intro xs r M vs hW h hr
  simp only [p_colV] at h
  split at h
  · rename_i nl n c j
    obtain ⟨l, h1, hg, rfl⟩ := bindL_inv h
    obtain ⟨rfl, rfl⟩ := decG_inv celG_inv h1
    obtain ⟨v, u, rfl, h2, h3⟩ := relT2 hr
    simp only [RelD] at h3
    subst h3
    obtain ⟨A, c, rfl, hs⟩ := sl_cels h2
    refine (rowGet_any M.w A l.length c l j hs).mono ?_
    rintro e w' ⟨rfl, hbl⟩
    exact ⟨_, rfl, hbl, fun U' _ => val_rel _ _ _ _ _⟩
  · cases h
noncomputable def v_index_marked : PFn := evalFn [(14, p_KeysGet)] ⟨[], []⟩ 300 Tryd.f55
theorem ok_index_marked : FOK NGk Tabs 55 v_index_marked := evalFn_ok wokk (allOK_cons ok_KeysGet allOK_nil) Tryd.func55 rfl (by decide)
noncomputable def v_index_ints_1 : PFn := evalFn [] ⟨[], []⟩ 300 Tryd.f64
theorem ok_index_ints_1 : FOK NGk Tabs 64 v_index_ints_1 := evalFn_ok wokk allOK_nil Tryd.func64 rfl (by decide)
noncomputable def v_slices_IndexFunc___api_Value_api_Value_ : PFn := evalFn [(64, v_index_ints_1)] ⟨[], [(0, ⟨[(0, false), (1, false), (7, false), (8, false)], []⟩)]⟩ 300 Tryd.f67
theorem ok_slices_IndexFunc___api_Value_api_Value_ : FOK NGk Tabs 67 v_slices_IndexFunc___api_Value_api_Value_ := evalFn_ok wokk (allOK_cons ok_index_ints_1 allOK_nil) Tryd.func67 rfl (by decide)
noncomputable def v_slices_ContainsFunc___api_Value_api_Value_ : PFn := evalFn [(67, v_slices_IndexFunc___api_Value_api_Value_)] ⟨[], []⟩ 300 Tryd.f63
theorem ok_slices_ContainsFunc___api_Value_api_Value_ : FOK NGk Tabs 63 v_slices_ContainsFunc___api_Value_api_Value_ := evalFn_ok wokk (allOK_cons ok_slices_IndexFunc___api_Value_api_Value_ allOK_nil) Tryd.func63 rfl (by decide)
noncomputable def v_index_ints : PFn := evalFn [(63, v_slices_ContainsFunc___api_Value_api_Value_)] ⟨[], []⟩ 300 Tryd.f56
theorem ok_index_ints : FOK NGk Tabs 56 v_index_ints := evalFn_ok wokk (allOK_cons ok_slices_ContainsFunc___api_Value_api_Value_ allOK_nil) Tryd.func56 rfl (by decide)
noncomputable def v_index_Parse : PFn := evalFn [(55, v_index_marked), (56, v_index_ints)] ⟨[], []⟩ 300 Tryd.f40
theorem ok_index_Parse : FOK NGk Tabs 40 v_index_Parse := evalFn_ok wokk (allOK_cons ok_index_marked (allOK_cons ok_index_ints allOK_nil)) Tryd.func40 rfl (by decide)
noncomputable def v_index_Row : PFn := evalFn [(55, v_index_marked), (56, v_index_ints)] ⟨[], []⟩ 300 Tryd.f41
theorem ok_index_Row : FOK NGk Tabs 41 v_index_Row := evalFn_ok wokk (allOK_cons ok_index_marked (allOK_cons ok_index_ints allOK_nil)) Tryd.func41 rfl (by decide)
noncomputable def v_refitlaw13_first : PFn := evalFn [(28, p_Entry), (29, p_Span), (40, v_index_Parse), (41, v_index_Row)] ⟨[], []⟩ 300 Tryd.f25
theorem ok_refitlaw13_first : FOK NGk Tabs 25 v_refitlaw13_first := evalFn_ok wokk (allOK_cons (ok_Entry ok_rowGet) (allOK_cons ok_Span (allOK_cons ok_index_Parse (allOK_cons ok_index_Row allOK_nil)))) Tryd.func25 rfl (by decide)
theorem first13_true : v_refitlaw13_first.F [] (R := PV) some = some (.bool true) := by kernel_rfl
end Go.Proofs.YtclhnfalebiieaaDoor
set_option linter.unusedVariables false
set_option linter.unusedSimpArgs false
set_option maxRecDepth 100000
namespace Go.Proofs.YtclhnfalebiieaaDoor
open Go.RowKit

def p_first13 : PFn := ⟨fun xs k => match xs with | [] => k (.bool true) | _ => none, false⟩
theorem fok_at {NG : Nat} {W : World → Prop} {f : FuncId} {p q : PFn} (hp : FOK NG W f p) (hn : q.nat) (ho : q.own = false) (h : ∀ xs r, q.F xs (R := PV) some = some r → p.F xs (R := PV) some = some r) : FOK NG W f q where
  nat := hn
  call := by
    intro M xs vs r hW hng hg hr hF
    have k := hp.call M xs vs r hW hng hg hr (h xs r hF)
    refine k.imp ?_ ?_
    · rintro ⟨v, w', h1, U', h2, h3, _⟩
      exact ⟨v, w', h1, U', h2, h3, fun e => by rw [ho] at e; cases e⟩
    · rintro ⟨h0, h1⟩
      refine ⟨h0, h1.mono ?_⟩
      rintro e w' ⟨v, h2, U', h3, h4, _⟩
      exact ⟨v, h2, U', h3, h4, fun e => by rw [ho] at e; cases e⟩
theorem ok_first13 : FOK NGk Tabs 25 p_first13 := by
  refine fok_at ok_refitlaw13_first ?_ rfl ?_
  · intro R xs k
    simp only [p_first13]
    split <;> rfl
  · intro xs r h
    simp only [p_first13] at h
    split at h
    · rw [first13_true]; exact h
    · cases h
/-! ## Small -/
abbrev Rw := Int × Option Bool × List Cel
def rwC (r : Rw) : List PV := [.int .i64 r.1, .sl r.2.1 5 r.2.2.length (celsC r.2.2)]
def rwG : List PV → Option Rw
  | [.int .i64 i, .sl nl 5 n c] => (decG 5 celG n c).map fun l => (i, nl, l)
  | _ => none
theorem rwG_of (r : Rw) : rwG (rwC r) = some r := by
  obtain ⟨i, nl, l⟩ := r
  show (decG 5 celG l.length (celsC l)).map _ = _
  rw [celsC, decG_of celC_len celG_of]; rfl
theorem rwG_inv (c : List PV) (r : Rw) (h : rwG c = some r) : c = rwC r := by
  unfold rwG at h
  split at h
  · obtain ⟨l, h1, rfl⟩ := Option.map_eq_some_iff.1 h
    obtain ⟨rfl, rfl⟩ := decG_inv celG_inv h1
    rfl
  · cases h
theorem rwC_len (r : Rw) : (rwC r).length = 2 := rfl
def ixR {R : Type} (len : Nat) (c : List PV) (i : Int) (K : Option Bool → Nat → List PV → Option R) : Option R :=
  bif decide (0 ≤ i) && decide (i < (len : Int)) then ((c.drop (i.toNat * 2)).take 2).head?.bind fun v => (PV.asInt .i64 v).bind fun _ => ((c.drop (i.toNat * 2)).take 2).tail.head?.bind fun v => (PV.asSl 5 v).bind fun v => K v.1 v.2.1 v.2.2 else none
theorem ixR_eq {R : Type} {rs : List Rw} {i : Nat} {r : Rw} {K : Option Bool → Nat → List PV → Option R} (h : rs[i]? = some r) : ixR rs.length (rs.flatMap rwC) (i : Int) K = K r.2.1 r.2.2.length (celsC r.2.2) := by
  have := (List.getElem?_eq_some_iff.1 h).1
  unfold ixR
  rw [cond_t (by rw [decide_eq_true (by omega), decide_eq_true (by omega)]; rfl), Int.toNat_natCast, flat_at rwC_len h]
  rfl
def frSo (n0 : Option Bool) (l0 : Nat) (c0 : List PV) (L i : Int) : St := frame 34 [(10, (.sl n0 2 l0 c0, 0)), (11, (.int .i64 L, 0)), (12, (.int .i64 i, 0))] []
def frSi (n0 : Option Bool) (l0 : Nat) (c0 : List PV) (L i : Int) (n1 : Option Bool) (l1 : Nat) (c1 : List PV) (M j : Int) : St :=
  frame 34 [(10, (.sl n0 2 l0 c0, 0)), (11, (.int .i64 L, 0)), (12, (.int .i64 i, 0)), (21, (.sl n1 5 l1 c1, 0)), (22, (.int .i64 M, 0)), (23, (.int .i64 j, 0))] []
noncomputable def smLoop (fu n : Nat) (st : St) : Option PV := loopF (en []) hSm fu false Tryd.f26 [1, 1, 0, 1, 0] 0 n st
noncomputable def siLoop (fu : Nat) (K : St → Option PV) (n : Nat) (st : St) : Option PV := loopP (en []) hSm fu false Tryd.f26 (fun st => pnorm (hSm.loop.lookup 0) st K) [1, 1, 0, 1, 0, 0, 1, 1, 0, 0, 1, 1, 1, 0] 2 n st
theorem sm_raw (fu : Nat) (n0 : Option Bool) (l0 : Nat) (c0 : List PV) : prun (en []) hSm fu false Tryd.f26 [.sl n0 2 l0 c0] = bif decide (60 < (l0 : Int)) then some (.bool false) else smLoop fu fu (frSo n0 l0 c0 (l0 : Int) 0) := prunN_eq.trans (by kernel_rfl)
theorem sm_step (fu : Nat) (n0 : Option Bool) (l0 : Nat) (c0 : List PV) (L i : Int) (K : St → Option PV) :
    stepF (en []) hSm fu false Tryd.f26 [1, 1, 0, 1, 0] (frSo n0 l0 c0 L i) (fun st => pnorm (hSm.loop.lookup 0) st K) =
    bif decide (i < L) then ixR l0 c0 i fun nl n c => bif decide (20 < (n : Int)) then some (.bool false) else siLoop fu K fu (frSi n0 l0 c0 L i nl n c (n : Int) 0) else some (.bool true) := (stepF_eq (by kernel_rfl)).trans (by kernel_rfl)
theorem si_step (fu : Nat) (n0 : Option Bool) (l0 : Nat) (c0 : List PV) (L i : Int) (n1 : Option Bool) (l1 : Nat) (c1 : List PV) (M j : Int) (K K2 : St → Option PV) :
    stepP (en []) hSm fu false Tryd.f26 [1, 1, 0, 1, 0, 0, 1, 1, 0, 0, 1, 1, 1, 0] (fun st => pnorm (hSm.loop.lookup 0) st K) (frSi n0 l0 c0 L i n1 l1 c1 M j) (fun st => pnorm (hSm.loop.lookup 2) st K2) =
    bif decide (j < M) then ixC l1 c1 j fun _ _ _ _ s => bif decide (250 < (s.length : Int)) then some (.bool false) else K2 (frSi n0 l0 c0 L i n1 l1 c1 M (IntKind.i64.wrap (j + 1)))
    else K (frSo n0 l0 c0 L (IntKind.i64.wrap (i + 1))) := (stepP_eq (by kernel_rfl)).trans (by kernel_rfl)
def celSm (c : Cel) : Bool := decide (c.2.s.length ≤ 250)
theorem si_loop (fu : Nat) (K : St → Option PV) (n0 : Option Bool) (l0 : Nat) (c0 : List PV) (L : Int) (i : Int) (n1 : Option Bool) (l : List Cel) (hl : l.length ≤ 1000000) : ∀ (k j n : Nat), j + k = l.length → k < n →
    siLoop fu K n (frSi n0 l0 c0 L i n1 l.length (celsC l) (l.length : Int) (j : Int)) = bif (l.drop j).all celSm then K (frSo n0 l0 c0 L (IntKind.i64.wrap (i + 1))) else some (.bool false)
  | k, j, 0, _, h => by omega
  | 0, j, n + 1, hj, hn => by
    unfold siLoop
    rw [loopP_succ, si_step, cond_f (decide_eq_false (by omega)), List.drop_of_length_le (by omega)]
    rfl
  | k + 1, j, n + 1, hj, hn => by
    have ih := si_loop fu K n0 l0 c0 L i n1 l hl k (j + 1) n (by omega) (by omega)
    have hc := List.getElem?_eq_getElem (l := l) (i := j) (by omega)
    unfold siLoop at ih ⊢
    rw [loopP_succ, si_step, cond_t (decide_eq_true (by omega)), ixC_eq hc, wrapI_of (x := (j : Int) + 1) (by omega) (by omega), List.drop_eq_getElem_cons (show j < l.length by omega), List.all_cons]
    by_cases hx : 250 < l[j].2.s.length
    · rw [cond_t (decide_eq_true (by omega)), show celSm l[j] = false from decide_eq_false (by omega)]
      rfl
    · rw [cond_f (decide_eq_false (by omega)), show celSm l[j] = true from decide_eq_true (by omega), Bool.true_and]
      exact ih
def rwSm (r : Rw) : Bool := decide (r.2.2.length ≤ 20) && r.2.2.all celSm
theorem sm_loop (fu : Nat) (hfu : 21 < fu) (n0 : Option Bool) (rs : List Rw) (hl : rs.length ≤ 1000000) : ∀ (k i n : Nat), i + k = rs.length → k < n →
    smLoop fu n (frSo n0 rs.length (rs.flatMap rwC) (rs.length : Int) (i : Int)) = some (.bool ((rs.drop i).all rwSm))
  | k, i, 0, _, h => by omega
  | 0, i, n + 1, hi, hn => by
    unfold smLoop
    rw [loopF_succ, sm_step, cond_f (decide_eq_false (by omega)), List.drop_of_length_le (by omega)]
    rfl
  | k + 1, i, n + 1, hi, hn => by
    have ih := sm_loop fu hfu n0 rs hl k (i + 1) n (by omega) (by omega)
    have hc := List.getElem?_eq_getElem (l := rs) (i := i) (by omega)
    unfold smLoop at ih ⊢
    rw [loopF_succ, sm_step, cond_t (decide_eq_true (by omega)), ixR_eq hc, List.drop_eq_getElem_cons (show i < rs.length by omega), List.all_cons]
    by_cases h20 : 20 < rs[i].2.2.length
    · rw [cond_t (decide_eq_true (by omega)), show rwSm rs[i] = false by unfold rwSm; rw [decide_eq_false (by omega)]; rfl]
      rfl
    · rw [cond_f (decide_eq_false (by omega))]
      have := si_loop fu (loopF (en []) hSm fu false Tryd.f26 [1, 1, 0, 1, 0] 0 n) n0 rs.length (rs.flatMap rwC) (rs.length : Int) (i : Int) rs[i].2.1 rs[i].2.2 (by omega) rs[i].2.2.length 0 fu (by omega) (by omega)
      rw [List.drop_zero] at this
      refine Eq.trans this ?_
      rw [show rwSm rs[i] = rs[i].2.2.all celSm by unfold rwSm; rw [decide_eq_true (by omega), Bool.true_and]]
      cases rs[i].2.2.all celSm
      · rfl
      · rw [cond_true, Bool.true_and, wrapI_of (by omega) (by omega)]
        exact ih
def smS (rs : List Rw) : Bool := decide (rs.length ≤ 60) && rs.all rwSm
def p_Small : PFn := ⟨fun xs k => match xs with | [.sl _ 2 n c] => (decG 2 rwG n c).bind fun rs => bif decide (rs.length ≤ 1000000) then k (.bool (smS rs)) else none | _ => none, false⟩
theorem ok_Small : FOK NGk Tabs 26 p_Small := by
  refine fok wokk allOK_nil (h := hSm) Tryd.func26 rfl (by decide) ?_ ?_
  · intro R xs k
    simp only [p_Small]
    split
    · exact bindL_nat
    · rfl
  · intro xs r h
    simp only [p_Small] at h
    split at h
    · rename_i nl n c
      obtain ⟨rs, h1, hg, rfl⟩ := bindL_inv h
      obtain ⟨rfl, rfl⟩ := decG_inv rwG_inv h1
      simp only [decide_eq_true_eq] at hg
      refine ⟨rs.length + 30, (sm_raw _ nl _ _).trans ?_⟩
      unfold smS
      by_cases h60 : 60 < rs.length
      · rw [cond_t (decide_eq_true (by omega)), decide_eq_false (by omega)]; rfl
      · rw [cond_f (decide_eq_false (by omega)), decide_eq_true (by omega), Bool.true_and]
        exact sm_loop _ (by omega) nl rs hg rs.length 0 _ (by omega) (by omega)
    · cases h
/-! ## the laws: runs -/
def smO {R : Type} (n : Nat) (c : List PV) (K : Bool → Option R) : Option R := (decG 2 rwG n c).bind fun rs => bif decide (rs.length ≤ 1000000) then K (smS rs) else none
def rrO {R : Type} (n : Nat) (c : List PV) (K : Bool → Option R) : Option R := (decG 5 celG n c).bind fun l => bif decide (l.length ≤ 1000000) && l.all (fun c => decide (c.2.s.length ≤ 1000000)) then K (rowR (-1) l) else none
def entO {R : Type} (t x0 : Int) (n9 : Nat) (c9 : List PV) (r0 : Int) (n1 : Nat) (c1 : List PV) (K : List UInt8 → Option R) : Option R := (entK n9 c9 n1 c1).bind fun p => K (entL t x0 p.1 p.2 r0)
def spnO {R : Type} (t x0 : Int) (n : Nat) (c : List PV) (K : List UInt8 → List UInt8 → Option R) : Option R := (decV n c).bind fun l => bif decide (l.length ≤ 1000) then K (fromL t x0 l) (aboveL (fromL t x0 l)) else none
noncomputable def lIs : List (FuncId × PFn) := [(25, p_first13), (26, p_Small), (27, p_rowR), (28, p_Entry), (29, p_Span), (15, p_RPut), (30, p_ValuesO)]
theorem ok_lIs : AllOK NGk Tabs lIs := allOK_cons ok_first13 (allOK_cons ok_Small (allOK_cons ok_rowR (allOK_cons (ok_Entry ok_rowGet) (allOK_cons ok_Span (allOK_cons ok_RPut (allOK_cons (ok_ValuesO ok_refGet) allOK_nil))))))
def hIs : Hints := ⟨[], [(0, ⟨[(2, false), (3, false), (4, false), (40, false), (41, false), (42, false)], [3, 4]⟩)]⟩
def frIs (n2 : Option Bool) (l2 : Nat) (c2 : List PV) (x0 : Int) (x1 : List UInt8) (n9 : Option Bool) (l9 : Nat) (c9 : List PV) (x3 : Bool) (x4 r0 : Int) (n1 : Option Bool) (l1 : Nat) (c1 : List PV) (n4 : Option Bool) (l4 : Nat) (c4 : List PV) (L i : Int) : St :=
  frame 114 [(2, (.sl n2 4 l2 c2, 0)), (3, (.ptr 3 0, 0)), (4, (.ptr 4 0, 0)), (40, (.sl n4 4 l4 c4, 0)), (41, (.int .i64 L, 0)), (42, (.int .i64 i, 0))] [(3, [(.int .i64 x0, 0), (.str x1, 0), (.sl n9 1 l9 c9, 0), (.bool x3, 0), (.int .i64 x4, 0)]), (4, [(.int .i64 r0, 0), (.sl n1 5 l1 c1, 0)])]
noncomputable def isLoop (fu n : Nat) (st : St) : Option PV := loopF (en lIs) hIs fu false Tryd.f8 [1, 1, 1, 0, 1, 0] 0 n st
theorem is_raw (fu : Nat) (x0 : Int) (x1 : List UInt8) (n9 : Option Bool) (l9 : Nat) (c9 : List PV) (x3 : Bool) (x4 r0 : Int) (n1 : Option Bool) (l1 : Nat) (c1 : List PV) (n2 : Option Bool) (l2 : Nat) (c2 : List PV) :
    prun (en lIs) hIs fu false Tryd.f8 [.agg [.int .i64 x0, .str x1, .sl n9 1 l9 c9, .bool x3, .int .i64 x4], .agg [.int .i64 r0, .sl n1 5 l1 c1], .sl n2 4 l2 c2] =
    bif !decide (10 < (l9 : Int)) then bif !decide (10 < (l2 : Int)) then smO 1 [.int .i64 r0, .sl n1 5 l1 c1] fun b => bif !!b then rrO l1 c1 fun b => bif !b then some (.bool true) else isLoop fu fu (frIs n2 l2 c2 x0 x1 n9 l9 c9 x3 x4 r0 n1 l1 c1 n2 l2 c2 (l2 : Int) 0)
      else some (.bool true) else some (.bool true) else some (.bool true) := prunN_eq.trans (by kernel_rfl)
def isIn (F E T : List UInt8) : Bool := bif (Op.bytesLess F E || F == E) then Op.bytesLess E T else false
def isEnd (l2 : Nat) (c2 : List PV) (x0 : Int) (l9 : Nat) (c9 : List PV) (r0 : Int) (l1 : Nat) (c1 : List PV) : Option PV :=
  entO 1 x0 l9 c9 r0 l1 c1 fun e => spnO 1 x0 l2 c2 fun f t => rputO l2 c2 fun b => valsO l9 c9 l1 c1 fun p => roomV p.1.length 1 (rputO (p.1.length + 1) (valsC (valsOf p.1 p.2) ++ [.int .i64 2, .int .i64 r0, .int .i64 0, .str []]) fun a =>
    bif decide ((b.length : Int) ≤ (a.length : Int)) then bif decide (0 ≤ (b.length : Int)) && decide ((b.length : Int) ≤ (a.length : Int)) then
      spnO 2 x0 l2 c2 fun o h => some (.bool ((isIn f e t == (bif true then ((a.take (b.length : Int).toNat).drop 0 == b) else false)) && !isIn o e h)) else none
    else spnO 2 x0 l2 c2 fun o h => some (.bool ((isIn f e t == false) && !isIn o e h)))
theorem is_step (fu : Nat) (n2 : Option Bool) (l2 : Nat) (c2 : List PV) (x0 : Int) (x1 : List UInt8) (n9 : Option Bool) (l9 : Nat) (c9 : List PV) (x3 : Bool) (x4 r0 : Int) (n1 : Option Bool) (l1 : Nat) (c1 : List PV) (n4 : Option Bool) (l4 : Nat) (c4 : List PV) (L i : Int) (K : St → Option PV) :
    stepF (en lIs) hIs fu false Tryd.f8 [1, 1, 1, 0, 1, 0] (frIs n2 l2 c2 x0 x1 n9 l9 c9 x3 x4 r0 n1 l1 c1 n4 l4 c4 L i) (fun st => pnorm (hIs.loop.lookup 0) st K) =
    bif decide (i < L) then ixV l4 c4 i fun _ _ _ s => bif decide (200 < (s.length : Int)) then some (.bool true) else K (frIs n2 l2 c2 x0 x1 n9 l9 c9 x3 x4 r0 n1 l1 c1 n4 l4 c4 L (IntKind.i64.wrap (i + 1)))
    else isEnd l2 c2 x0 l9 c9 r0 l1 c1 := by kernel_rfl
end Go.Proofs.YtclhnfalebiieaaDoor
set_option linter.unusedVariables false
set_option linter.unusedSimpArgs false
set_option maxRecDepth 100000
namespace Go.Proofs.YtclhnfalebiieaaDoor
open Go.RowKit

/-! ## rows in plain words -/
theorem rowR_right : ∀ (l : List Cel) (was : Int), rowR was l = true → ∀ c ∈ l, right c.2 = true
  | [], _, _, _, hc => by cases hc
  | x :: l, was, h, c, hc => by
    rw [rowR] at h
    cases h1 : (decide (x.1 ≤ was) || x.2.kind == 0) <;> rw [h1] at h
    · cases h2 : right x.2 <;> rw [h2] at h
      · cases h
      · rcases List.mem_cons.1 hc with rfl | hc
        · exact h2
        · exact rowR_right l x.1 h c hc
    · cases h
theorem colV_mem : ∀ (l : List Cel) (j : Int), colV l j = vnull ∨ ∃ c ∈ l, colV l j = c.2
  | [], _ => .inl rfl
  | x :: l, j => by
    rw [colV]
    split
    · exact .inr ⟨x, by simp, rfl⟩
    · rcases colV_mem l j with h | ⟨c, hc, h⟩
      · exact .inl h
      · exact .inr ⟨c, by simp [hc], h⟩
theorem valsOf_ok {cols : List Int} {l : List Cel} (hr : rowR (-1) l = true) (h64 : ∀ c ∈ l, c.2.in64) : ∀ x ∈ valsOf cols l, right x = true ∧ x.in64 := by
  intro x hx
  obtain ⟨j, _, rfl⟩ := List.mem_map.1 hx
  rcases colV_mem l j with h | ⟨c, hc, h⟩
  · rw [h]; exact ⟨right_null, null64⟩
  · rw [h]; exact ⟨rowR_right l (-1) hr c hc, h64 c hc⟩
theorem valsOf_s {cols : List Int} {l : List Cel} (hs : l.all celSm = true) : ∀ x ∈ valsOf cols l, x.s.length ≤ 250 := by
  intro x hx
  obtain ⟨j, _, rfl⟩ := List.mem_map.1 hx
  rcases colV_mem l j with h | ⟨c, hc, h⟩
  · rw [h]; simp [vnull]
  · rw [h]
    have := List.all_eq_true.1 hs c hc
    simpa [celSm] using this
theorem smS_one {i : Int} {nl : Option Bool} {l : List Cel} : smS [(i, nl, l)] = (decide (l.length ≤ 20) && l.all celSm) := by
  unfold smS rwSm
  simp
theorem smS_two {i j : Int} {nl ml : Option Bool} {l m : List Cel} : smS [(i, nl, l), (j, ml, m)] = ((decide (l.length ≤ 20) && l.all celSm) && (decide (m.length ≤ 20) && m.all celSm)) := by
  unfold smS rwSm
  simp
theorem smO_one {R : Type} {i : Int} {nl : Option Bool} {l : List Cel} {K : Bool → Option R} : smO 1 [.int .i64 i, .sl nl 5 l.length (celsC l)] K = K (decide (l.length ≤ 20) && l.all celSm) := by
  unfold smO
  have := decG_of rwC_len rwG_of [((i, nl, l) : Rw)]
  rw [show ([PV.int .i64 i, .sl nl 5 l.length (celsC l)] : List PV) = [((i, nl, l) : Rw)].flatMap rwC from rfl, show (1 : Nat) = [((i, nl, l) : Rw)].length from rfl, this, ← smS_one (i := i) (nl := nl)]
  rfl
theorem smO_two {R : Type} {i j : Int} {nl ml : Option Bool} {l m : List Cel} {K : Bool → Option R} : smO 2 [.int .i64 i, .sl nl 5 l.length (celsC l), .int .i64 j, .sl ml 5 m.length (celsC m)] K = K ((decide (l.length ≤ 20) && l.all celSm) && (decide (m.length ≤ 20) && m.all celSm)) := by
  unfold smO
  have : decG 2 rwG 2 [.int .i64 i, .sl nl 5 l.length (celsC l), .int .i64 j, .sl ml 5 m.length (celsC m)] = some [((i, nl, l) : Rw), (j, ml, m)] := decG_of rwC_len rwG_of [((i, nl, l) : Rw), (j, ml, m)]
  rw [this]
  rw [← smS_two (i := i) (j := j) (nl := nl) (ml := ml)]
  rfl
theorem rrO_eq {R : Type} {l : List Cel} {K : Bool → Option R} (hl : l.length ≤ 20) (hs : l.all celSm = true) : rrO l.length (celsC l) K = K (rowR (-1) l) := by
  unfold rrO
  rw [celsC, decG_of celC_len celG_of]
  refine cond_t ?_
  rw [decide_eq_true (show l.length ≤ 1000000 by omega), Bool.true_and, List.all_eq_true]
  intro c hc
  have := List.all_eq_true.1 hs c hc
  simp only [celSm, decide_eq_true_eq] at this
  exact decide_eq_true (by omega)
theorem entO_eq {R : Type} {t x0 r0 : Int} {cols : List Int} {l : List Cel} {K : List UInt8 → Option R} (h1 : cols.length ≤ 1000) (h2 : l.length ≤ 1000) : entO t x0 cols.length (colC cols) r0 l.length (celsC l) K = K (entL t x0 cols l r0) := by
  unfold entO entK
  rw [valsK_of (by omega) (by omega), Option.bind_some, if_pos (show ((cols, l) : List Int × List Cel).1.length ≤ 90000 by show cols.length ≤ 90000; omega)]
  rfl
theorem spnO_eq {R : Type} {t x0 : Int} {l : List Val} {K : List UInt8 → List UInt8 → Option R} (h : l.length ≤ 1000) : spnO t x0 l.length (valsC l) K = K (fromL t x0 l) (aboveL (fromL t x0 l)) := by
  unfold spnO
  rw [decV_vals]
  exact cond_t (decide_eq_true h)
theorem valsO_eq {R : Type} {cols : List Int} {l : List Cel} {K : List Int × List Cel → Option R} (h1 : cols.length ≤ 1000) (h2 : l.length ≤ 1000) : valsO cols.length (colC cols) l.length (celsC l) K = K (cols, l) := by
  unfold valsO
  rw [valsK_of (by omega) (by omega)]; rfl
theorem isIn_span (F E : List UInt8) : isIn F E (aboveL F) = inSpan F E := by
  unfold isIn inSpan
  cases (Op.bytesLess F E || F == E) <;> rfl
theorem ent_pre (t x0 : Int) (cols : List Int) (l : List Cel) (r0 : Int) : entL t x0 cols l r0 = preE t x0 ++ encs (valsOf cols l ++ [numV r0]) := encs_entry t x0 _
theorem from_pre (t x0 : Int) (l : List Val) : fromL t x0 l = preE t x0 ++ encs l := encs_entry t x0 l
/-! ## IndexSpans -/
theorem is_end {x0 r0 : Int} {cols : List Int} {l : List Cel} {vs : List Val} (hc : cols.length ≤ 10) (hv : vs.length ≤ 10) (hl : l.length ≤ 20) (hs : l.all celSm = true) (hvs : ∀ v ∈ vs, v.s.length ≤ 200) :
    isEnd vs.length (valsC vs) x0 cols.length (colC cols) r0 l.length (celsC l) = some (.bool true) := by
  unfold isEnd
  rw [entO_eq (by omega) (by omega), spnO_eq (by omega), rputO_eq (by omega) (fun v h => by have := hvs v h; omega), valsO_eq (by omega) (by omega)]
  dsimp only
  rw [roomV_eq (by omega), show [PV.int .i64 2, .int .i64 r0, .int .i64 0, .str []] = V4.cs (numV r0) from rfl, valsC_snoc, show cols.length + 1 = (valsOf cols l ++ [numV r0]).length by simp [valsOf]]
  have hlen : (valsOf cols l ++ [numV r0]).length = cols.length + 1 := by simp [valsOf]
  rw [rputO_eq (by omega) (fun v h => by
    rw [List.mem_append] at h
    rcases h with h | h
    · have := valsOf_s hs v h; omega
    · simp only [List.mem_singleton] at h; subst h; simp [numV])]
  have e1 : isIn (fromL 1 x0 vs) (entL 1 x0 cols l r0) (aboveL (fromL 1 x0 vs)) = decide ((encs (valsOf cols l ++ [numV r0])).take (encs vs).length = encs vs) := by
    have hne : aboveL (fromL 1 x0 vs) ≠ [] := above_ne (c := 105) (by decide) _
    rw [isIn_span, span_iff hne]
    congr 1
    rw [ent_pre, from_pre, eq_iff_iff]
    exact take_pre _ _ _
  have e2 : isIn (fromL 2 x0 vs) (entL 1 x0 cols l r0) (aboveL (fromL 2 x0 vs)) = false := by
    have hne : aboveL (fromL 2 x0 vs) ≠ [] := above_ne (c := 105) (by decide) _
    rw [isIn_span, span_iff hne, decide_eq_false_iff_not, ent_pre, from_pre]
    exact pre_other _ _ _
  generalize encs (valsOf cols l ++ [numV r0]) = a at e1 ⊢
  by_cases hle : (encs vs).length ≤ a.length
  · rw [cond_t (decide_eq_true (by omega)), cond_t (by rw [decide_eq_true (by omega), decide_eq_true (by omega)]; rfl), spnO_eq (by omega), e1, e2, List.drop_zero, Int.toNat_natCast]
    have : (a.take (encs vs).length == encs vs) = decide (a.take (encs vs).length = encs vs) := by
      rw [Bool.eq_iff_iff]; simp
    rw [this]
    simp
  · rw [cond_f (decide_eq_false (by omega)), spnO_eq (by omega), e1, e2]
    have : ¬ a.take (encs vs).length = encs vs := by
      intro h
      have := congrArg List.length h
      rw [List.length_take] at this
      omega
    rw [decide_eq_false this]
    rfl
theorem is_loop (fu : Nat) (x0 : Int) (x1 : List UInt8) (n9 : Option Bool) (cols : List Int) (x3 : Bool) (x4 r0 : Int) (n1 : Option Bool) (l : List Cel) (n2 n4 : Option Bool) (vs : List Val) (hc : cols.length ≤ 10) (hv : vs.length ≤ 10) (hl : l.length ≤ 20) (hs : l.all celSm = true) :
    ∀ (k i n : Nat), i + k = vs.length → k < n → (∀ (j : Nat) (v : Val), j < i → vs[j]? = some v → v.s.length ≤ 200) →
    isLoop fu n (frIs n2 vs.length (valsC vs) x0 x1 n9 cols.length (colC cols) x3 x4 r0 n1 l.length (celsC l) n4 vs.length (valsC vs) (vs.length : Int) (i : Int)) = some (.bool true)
  | k, i, 0, _, h, _ => by omega
  | 0, i, n + 1, hi, hn, hb => by
    unfold isLoop
    rw [loopF_succ, is_step, cond_f (decide_eq_false (by omega))]
    refine is_end hc hv hl hs fun v h => ?_
    obtain ⟨j, hj⟩ := List.getElem?_of_mem h
    have := (List.getElem?_eq_some_iff.1 hj).1
    exact hb j v (by omega) hj
  | k + 1, i, n + 1, hi, hn, hb => by
    have ih := is_loop fu x0 x1 n9 cols x3 x4 r0 n1 l n2 n4 vs hc hv hl hs k (i + 1) n (by omega) (by omega)
    have hx := List.getElem?_eq_getElem (l := vs) (i := i) (by omega)
    unfold isLoop at ih ⊢
    rw [loopF_succ, is_step, cond_t (decide_eq_true (by omega)), ixV_eq hx]
    by_cases h200 : 200 < vs[i].s.length
    · rw [cond_t (decide_eq_true (by omega))]
    · rw [cond_f (decide_eq_false (by omega)), wrapI_of (by omega) (by omega)]
      refine ih fun j v hj hjv => ?_
      by_cases e : j = i
      · subst e
        rw [hx] at hjv
        injection hjv with hjv
        subst hjv
        omega
      · exact hb j v (by omega) hjv
theorem is_true (x0 : Int) (x1 : List UInt8) (n9 : Option Bool) (cols : List Int) (x3 : Bool) (x4 r0 : Int) (n1 : Option Bool) (l : List Cel) (n2 : Option Bool) (vs : List Val) :
    prun (en lIs) hIs (vs.length + 1) false Tryd.f8 [.agg [.int .i64 x0, .str x1, .sl n9 1 cols.length (colC cols), .bool x3, .int .i64 x4], .agg [.int .i64 r0, .sl n1 5 l.length (celsC l)], .sl n2 4 vs.length (valsC vs)] = some (.bool true) := by
  rw [is_raw]
  by_cases h1 : 10 < cols.length
  · rw [cond_f (by rw [decide_eq_true (by omega)]; rfl)]
  · rw [cond_t (by rw [decide_eq_false (by omega)]; rfl)]
    by_cases h2 : 10 < vs.length
    · rw [cond_f (by rw [decide_eq_true (by omega)]; rfl)]
    · rw [cond_t (by rw [decide_eq_false (by omega)]; rfl), smO_one]
      rcases hsm : (decide (l.length ≤ 20) && l.all celSm) with _ | _
      · rfl
      · simp only [Bool.and_eq_true, decide_eq_true_eq] at hsm
        simp only [Bool.not_true, Bool.not_false, cond_true]
        rw [rrO_eq hsm.1 hsm.2]
        rcases hr : rowR (-1) l with _ | _
        · rfl
        · exact is_loop _ x0 x1 n9 cols x3 x4 r0 n1 l n2 n2 vs (by omega) (by omega) hsm.1 hsm.2 vs.length 0 _ (by omega) (by omega) (fun j v hj => by omega)
/-! ## IndexOrder -/
noncomputable def lIo : List (FuncId × PFn) := [(25, p_first13), (26, p_Small), (27, p_rowR), (28, p_Entry), (15, p_RPut), (30, p_Values)]
theorem ok_lIo : AllOK NGk Tabs lIo := allOK_cons ok_first13 (allOK_cons ok_Small (allOK_cons ok_rowR (allOK_cons (ok_Entry ok_rowGet) (allOK_cons ok_RPut (allOK_cons (ok_Values ok_refGet) allOK_nil)))))
def ioEnd (x0 : Int) (l9 : Nat) (c9 : List PV) (r0 : Int) (l1 : Nat) (c1 : List PV) (q0 : Int) (l2 : Nat) (c2 : List PV) : Option PV :=
  valsO l9 c9 l1 c1 fun a => rputO a.1.length (valsC (valsOf a.1 a.2)) fun p => valsO l9 c9 l2 c2 fun b => rputO b.1.length (valsC (valsOf b.1 b.2)) fun q =>
    entO 1 x0 l9 c9 r0 l1 c1 fun s => entO 1 x0 l9 c9 q0 l2 c2 fun t =>
      bif !(p == q) then catO p [2] (catO q [2] (some (.bool ((Op.bytesLess s t == Op.bytesLess (p ++ [2]) (q ++ [2])) || ((l9 : Int) == 0))))) else some (.bool ((Op.bytesLess s t == decide (r0 < q0)) && ((s == t) == (r0 == q0))))
theorem io_raw (x0 : Int) (x1 : List UInt8) (n9 : Option Bool) (l9 : Nat) (c9 : List PV) (x3 : Bool) (x4 r0 : Int) (n1 : Option Bool) (l1 : Nat) (c1 : List PV) (q0 : Int) (n2 : Option Bool) (l2 : Nat) (c2 : List PV) :
    prun (en lIo) ⟨[], []⟩ 0 false Tryd.f9 [.agg [.int .i64 x0, .str x1, .sl n9 1 l9 c9, .bool x3, .int .i64 x4], .agg [.int .i64 r0, .sl n1 5 l1 c1], .agg [.int .i64 q0, .sl n2 5 l2 c2]] =
    bif !decide (10 < (l9 : Int)) then smO 2 [.int .i64 r0, .sl n1 5 l1 c1, .int .i64 q0, .sl n2 5 l2 c2] fun b => bif !!b then rrO l1 c1 fun b => bif !!b then rrO l2 c2 fun b => bif !b then some (.bool true) else ioEnd x0 l9 c9 r0 l1 c1 q0 l2 c2
      else some (.bool true) else some (.bool true) else some (.bool true) := by kernel_rfl
theorem io_true (x0 : Int) (x1 : List UInt8) (n9 : Option Bool) (cols : List Int) (x3 : Bool) (x4 r0 : Int) (n1 : Option Bool) (l : List Cel) (q0 : Int) (n2 : Option Bool) (m : List Cel) (hr0 : -9223372036854775808 ≤ r0 ∧ r0 ≤ 9223372036854775807) (hq0 : -9223372036854775808 ≤ q0 ∧ q0 ≤ 9223372036854775807) (hl64 : ∀ c ∈ l, c.2.in64) (hm64 : ∀ c ∈ m, c.2.in64) :
    prun (en lIo) ⟨[], []⟩ 0 false Tryd.f9 [.agg [.int .i64 x0, .str x1, .sl n9 1 cols.length (colC cols), .bool x3, .int .i64 x4], .agg [.int .i64 r0, .sl n1 5 l.length (celsC l)], .agg [.int .i64 q0, .sl n2 5 m.length (celsC m)]] = some (.bool true) := by
  rw [io_raw]
  by_cases h1 : 10 < cols.length
  · rw [cond_f (by rw [decide_eq_true (by omega)]; rfl)]
  · rw [cond_t (by rw [decide_eq_false (by omega)]; rfl), smO_two]
    rcases hsm : ((decide (l.length ≤ 20) && l.all celSm) && (decide (m.length ≤ 20) && m.all celSm)) with _ | _
    · rfl
    · simp only [Bool.and_eq_true, decide_eq_true_eq] at hsm
      obtain ⟨⟨a1, a2⟩, b1, b2⟩ := hsm
      simp only [Bool.not_true, Bool.not_false, cond_true]
      rw [rrO_eq a1 a2]
      rcases hra : rowR (-1) l with _ | _
      · rfl
      · simp only [Bool.not_true, Bool.not_false, cond_true]
        rw [rrO_eq b1 b2]
        rcases hrb : rowR (-1) m with _ | _
        · rfl
        · simp only [Bool.not_true, cond_false]
          unfold ioEnd
          have la : (valsOf cols l).length = cols.length := by simp [valsOf]
          have lb : (valsOf cols m).length = cols.length := by simp [valsOf]
          have hea := encs_length (valsOf cols l)
          have heb := encs_length (valsOf cols m)
          rw [valsO_eq (by omega) (by omega)]
          dsimp only
          rw [show cols.length = (valsOf cols l).length from la.symm, rputO_eq (by omega) (fun v h => by have := valsOf_s a2 v h; omega), la, valsO_eq (by omega) (by omega)]
          dsimp only
          rw [show cols.length = (valsOf cols m).length from lb.symm, rputO_eq (by omega) (fun v h => by have := valsOf_s b2 v h; omega), lb, entO_eq (by omega) (by omega), entO_eq (by omega) (by omega), ent_pre, ent_pre, encs_append, encs_append]
          have e1 : ∀ r : Int, encs [numV r] = enc (numV r) := fun r => by simp [encs]
          rw [e1, e1]
          rcases encs_any (valsOf cols l) (valsOf cols m) (by omega) (valsOf_ok hra hl64) (valsOf_ok hrb hm64) with h | ⟨z, hd⟩
          · rw [h, beq_self_eq_true]
            simp only [Bool.not_true, cond_false]
            obtain ⟨g1, g2⟩ := lss_num hr0 hq0 (preE 1 x0 ++ encs (valsOf cols m))
            rw [← List.append_assoc, ← List.append_assoc, g1, g2]
            simp
          · have hne : (encs (valsOf cols l) == encs (valsOf cols m)) = false := by
              rw [beq_eq_false_iff_ne]
              intro e
              have h1 := hd.txt
              rw [e, txt_self] at h1
              exact hd.ne h1.symm
            rw [hne]
            simp only [Bool.not_false, cond_true]
            rw [catO_eq (by simp only [List.length_cons, List.length_nil]; omega), catO_eq (by simp only [List.length_cons, List.length_nil]; omega), ((hd.append (enc (numV r0)) (enc (numV q0))).pre (preE 1 x0)).lss, (hd.append [2] [2]).lss]
            simp
end Go.Proofs.YtclhnfalebiieaaDoor
set_option linter.unusedVariables false
set_option linter.unusedSimpArgs false
set_option maxRecDepth 100000
namespace Go.Proofs.YtclhnfalebiieaaDoor
open Go.ChangeShapes Go.WideShapes Go.ChangeAt Go.RowKit Go.Deep

instance : Inhabited Cel := ⟨(0, vnull)⟩
theorem cellsCell : Tryd.prog.cellsOf 72 = 5 := by kernel_rfl
/-- one cell -/
theorem cel_of_trod {H : Type} {enc : TypeId × Value → H} {W : World} {base : Nat} {sp : Nat → Bool} {held : Bool} {n : Nat} {cs : List Value} {x : DataW H × List MemPlace}
    (h : DataW.trod enc Tryd.prog W base sp held n 72 cs = some x) : ∃ v : Cel, cs = v.vs ∧ v.2.in64 := by
  obtain ⟨xs, k, _, _, hl, hxl, hf⟩ := DataW.trod_struct Tryd.underlying72 h
  rw [cellsCell] at hl
  match cs, hl with
  | [v0, v1, v2, v3, v4], _ =>
    match xs, hxl with
    | [y0, y1], _ =>
      have g0 : DataW.trod enc Tryd.prog W base sp held k 3 [v0] = some y0 := hf 0 _ rfl
      have g1 : DataW.trod enc Tryd.prog W base sp held k 29 [v1, v2, v3, v4] = some y1 := hf 1 _ rfl
      obtain ⟨a, e0, _, _⟩ := DataW.trod_int Tryd.underlying3 g0
      obtain ⟨v, e1, h64⟩ := val_of_trod g1
      obtain rfl := List.head_eq_of_cons_eq e0
      exact ⟨(a, v), by rw [e1]; rfl, h64⟩
/-- a slice of cells -/
theorem open_cels {H : Type} {enc : TypeId × Value → H} {W : World} {base : Nat} {held : Bool} {fuel : Nat} {v : Value} {x : DataW H × List MemPlace}
    (hf : DataW.trod enc Tryd.prog W base (fun _ => true) held fuel 51 [v] = some x) :
    ∃ A n c l, v = .slice A n c ∧ Sl W 5 A n c (ccs l) ∧ (A = none → c = 0) ∧ ∀ y ∈ l, y.2.in64 := by
  rcases open_slice Tryd.underlying51 hf with ⟨h, hx⟩ | ⟨a, n, c, m, k, D, Pl, hcs, hb, hlc, hcm, hm, hx, hcell⟩
  · obtain rfl := List.head_eq_of_cons_eq h
    exact ⟨none, 0, 0, [], rfl, Sl.zero _ _ _ _ (by decide), fun _ => rfl, by simp⟩
  · obtain rfl := List.head_eq_of_cons_eq hcs
    simp only [if_true] at hm
    have each : ∀ i, i < n → ∃ x : Cel, (∀ j, j < 5 → W.cell? (a.add (i * 5 + j)) = x.vs[j]?) ∧ x.2.in64 := by
      intro i hi
      obtain ⟨cs', h1, h2⟩ := hcell i (by omega)
      rw [cellsCell] at h1
      obtain ⟨x, rfl, hx⟩ := cel_of_trod h2
      obtain ⟨_, _, h3⟩ := World.cells?_some h1
      exact ⟨x, fun j hj => by rw [← h3 j hj, add_add], hx⟩
    obtain ⟨X, hX⟩ := choose_lt each
    refine ⟨some a, n, c, (List.range n).map X, rfl, ⟨by rw [ccs_length]; simp, hlc, hcm, fun hn => ?_⟩, fun h => (nomatch h), fun x hx => ?_⟩
    · have h00 := (hX 0 hn).1 0 (by omega)
      obtain ⟨b, off, spot⟩ := a
      have hspot : spot = none := by
        have := World.cell?_spot (v := .int .i64 (X 0).1) h00
        simpa [Addr.add] using this
      subst hspot
      refine ⟨b, off, rfl, block_lt_of_cell (a := (⟨b, off, none⟩ : Addr).add 0) h00, fun j u hu => ?_⟩
      have hjl : j < n * 5 := by
        have := (List.getElem?_eq_some_iff.1 hu).1
        rw [ccs_length] at this
        simpa using this
      have hk : ((List.range n).map X)[j / 5]? = some (X (j / 5)) := by
        rw [List.getElem?_map, List.getElem?_range (by omega)]; rfl
      have hg := ccs_get hk (j % 5) (by omega)
      rw [show j / 5 * 5 + j % 5 = j from by omega, hu] at hg
      have h1 := (hX (j / 5) (by omega)).1 (j % 5) (by omega)
      rw [← hg, show j / 5 * 5 + j % 5 = j from by omega, add_plain] at h1
      exact h1
    · obtain ⟨i, hi, rfl⟩ := List.mem_map.1 hx
      exact (hX i (by simpa using hi)).2
/-- a slice of ints -/
def ivs (l : List Int) : List Value := l.map fun j => .int .i64 j
theorem open_intL {H : Type} {enc : TypeId × Value → H} {W : World} {base : Nat} {held : Bool} {fuel : Nat} {v : Value} {x : DataW H × List MemPlace}
    (hf : DataW.trod enc Tryd.prog W base (fun _ => true) held fuel 47 [v] = some x) :
    ∃ A n c l, v = .slice A n c ∧ Sl W 1 A n c (ivs l) ∧ (A = none → c = 0) := by
  rcases open_ints Tryd.underlying47 Tryd.underlying3 cellsInt hf with ⟨h, hx⟩ | ⟨a, n, c, zs, hcs, hb, hlc, hcm, hlen, hx, hcell, hwf⟩
  · obtain rfl := List.head_eq_of_cons_eq h
    exact ⟨none, 0, 0, [], rfl, Sl.zero _ _ _ _ (by decide), fun _ => rfl⟩
  · obtain rfl := List.head_eq_of_cons_eq hcs
    simp only [if_true] at hlen
    refine ⟨some a, n, c, zs.take n, rfl, ⟨by rw [ivs, List.length_map, List.length_take]; omega, hlc, hcm, fun hn => ?_⟩, fun h => by cases h⟩
    obtain ⟨b, off, rfl, hj⟩ := ints_at hcell (by omega)
    have h0 := hj 0 (by omega)
    refine ⟨b, off, rfl, block_lt_of_cell h0, fun j u hu => ?_⟩
    have hjn : j < n := by
      have := (List.getElem?_eq_some_iff.1 hu).1
      rw [ivs, List.length_map, List.length_take] at this
      omega
    rw [hj j (by omega), ← hu, ivs, List.map_take, List.getElem?_take_of_lt hjn, List.getElem?_map, List.getElem?_eq_getElem (show j < zs.length by omega), List.getD_eq_getElem?_getD, List.getElem?_eq_getElem (show j < zs.length by omega)]
    first | done | rfl
theorem rel_ints (M : Mem) : ∀ (l : List Int), RelL M (colC l) (ivs l)
  | [] => rfl
  | j :: l => by
    show RelL M (.int .i64 j :: colC l) (.int .i64 j :: ivs l)
    simp only [RelL, RelD]
    exact ⟨_, _, rfl, rfl, rfl, rel_ints M l⟩
theorem sl_len5 {w : World} {A : Option Addr} {n c : Nat} {l : List Cel} (h : Sl w 5 A n c (ccs l)) : n = l.length := by have := h.len; rw [ccs_length] at this; omega
theorem sl_lenI {w : World} {A : Option Addr} {n c : Nat} {l : List Int} (h : Sl w 1 A n c (ivs l)) : n = l.length := by have := h.len; rw [ivs, List.length_map] at this; omega
/-- an index that comes in -/
theorem open_index {H : Type} {enc : TypeId × Value → H} {W W0 : World} {r : Reach} {b0 base : Nat} {held : Bool} {v : Value} {d : DataW H} {ps : List MemPlace}
    (hval : Value.okWide Tryd.prog W0 r b0 50 v) (hd : DataW.Trod enc Tryd.prog W base (fun _ => true) held 50 v d ps) :
    ∃ (x0 : Int) (x1 : List UInt8) (A : Option Addr) (n c : Nat) (l : List Int) (x3 : Bool) (x4 : Int), v = .agg #[.int .i64 x0, .string ⟨x1.toArray⟩, .slice A n c, .bool x3, .int .i64 x4] ∧ Sl W 1 A n c (ivs l) ∧ (A = none → c = 0) := by
  simp only [Value.okWide, Tryd.underlying50] at hval
  obtain ⟨cs, rfl, hs, _⟩ := hval
  rw [show Tryd.prog.cellsOf 50 = 5 by kernel_rfl] at hs
  obtain ⟨l⟩ := cs
  obtain ⟨fuel, hf⟩ := hd
  obtain ⟨xs, k, _, _, hl, hxl, hfi⟩ := DataW.trod_struct Tryd.underlying50 (show DataW.trod enc Tryd.prog W base (fun _ => true) held fuel 50 l = some (d, ps) from hf)
  match l, hs with
  | [v0, v1, v2, v3, v4], _ =>
    match xs, hxl with
    | [y0, y1, y2, y3, y4], _ =>
      have g0 : DataW.trod enc Tryd.prog W base (fun _ => true) held k 3 [v0] = some y0 := hfi 0 _ rfl
      have g1 : DataW.trod enc Tryd.prog W base (fun _ => true) held k 9 [v1] = some y1 := hfi 1 _ rfl
      have g2 : DataW.trod enc Tryd.prog W base (fun _ => true) held k 47 [v2] = some y2 := hfi 2 _ rfl
      have g3 : DataW.trod enc Tryd.prog W base (fun _ => true) held k 4 [v3] = some y3 := hfi 3 _ rfl
      have g4 : DataW.trod enc Tryd.prog W base (fun _ => true) held k 48 [v4] = some y4 := hfi 4 _ rfl
      obtain ⟨a, e0, _, _⟩ := DataW.trod_int Tryd.underlying3 g0
      obtain ⟨s, e1, _, _⟩ := DataW.trod_string Tryd.underlying9 g1
      obtain ⟨A, n, c, l, e2, hS, h0⟩ := open_intL g2
      obtain ⟨t, e3, _⟩ := DataW.trod_bool Tryd.underlying4 g3
      obtain ⟨z, e4, _, _⟩ := DataW.trod_int (k := .i64) (by kernel_rfl) g4
      obtain rfl := List.head_eq_of_cons_eq e0
      obtain rfl := List.head_eq_of_cons_eq e1
      subst e2
      obtain rfl := List.head_eq_of_cons_eq e3
      obtain rfl := List.head_eq_of_cons_eq e4
      exact ⟨a, s.data.toList, A, n, c, l, t, z, by simp, hS, h0⟩
/-- a row that comes in -/
theorem open_row {H : Type} {enc : TypeId × Value → H} {W W0 : World} {r : Reach} {b0 base : Nat} {held : Bool} {v : Value} {d : DataW H} {ps : List MemPlace}
    (hval : Value.okWide Tryd.prog W0 r b0 53 v) (hd : DataW.Trod enc Tryd.prog W base (fun _ => true) held 53 v d ps) :
    ∃ (r0 : Int) (A : Option Addr) (n c : Nat) (l : List Cel), v = .agg #[.int .i64 r0, .slice A n c] ∧ (-9223372036854775808 ≤ r0 ∧ r0 ≤ 9223372036854775807) ∧ Sl W 5 A n c (ccs l) ∧ (A = none → c = 0) ∧ ∀ y ∈ l, y.2.in64 := by
  simp only [Value.okWide, Tryd.underlying53] at hval
  obtain ⟨cs, rfl, hs, _⟩ := hval
  rw [show Tryd.prog.cellsOf 53 = 2 by kernel_rfl] at hs
  obtain ⟨l⟩ := cs
  obtain ⟨fuel, hf⟩ := hd
  obtain ⟨xs, k, _, _, hl, hxl, hfi⟩ := DataW.trod_struct Tryd.underlying53 (show DataW.trod enc Tryd.prog W base (fun _ => true) held fuel 53 l = some (d, ps) from hf)
  match l, hs with
  | [v0, v1], _ =>
    match xs, hxl with
    | [y0, y1], _ =>
      have g0 : DataW.trod enc Tryd.prog W base (fun _ => true) held k 3 [v0] = some y0 := hfi 0 _ rfl
      have g1 : DataW.trod enc Tryd.prog W base (fun _ => true) held k 51 [v1] = some y1 := hfi 1 _ rfl
      obtain ⟨a, e0, _, ha⟩ := DataW.trod_int Tryd.underlying3 g0
      obtain ⟨A, n, c, l, e1, hS, h0, h64⟩ := open_cels g1
      obtain rfl := List.head_eq_of_cons_eq e0
      subst e1
      exact ⟨a, A, n, c, l, rfl, bounds_i64 ha, hS, h0, h64⟩
theorem rel_index {M : Mem} {x0 : Int} {x1 : List UInt8} {n9 : Option Bool} {l9 : Nat} {c9 : List PV} {x3 : Bool} {x4 : Int} {A : Option Addr} {n c : Nat} (h : RelD M (.sl n9 1 l9 c9) (.slice A n c)) :
    RelD M (.agg [.int .i64 x0, .str x1, .sl n9 1 l9 c9, .bool x3, .int .i64 x4]) (.agg #[.int .i64 x0, .string ⟨x1.toArray⟩, .slice A n c, .bool x3, .int .i64 x4]) := by
  rw [RelD]
  refine ⟨[.int .i64 x0, .string ⟨x1.toArray⟩, .slice A n c, .bool x3, .int .i64 x4], rfl, ?_⟩
  simp only [RelL]
  exact ⟨_, _, rfl, rfl, by simp only [RelD], _, _, rfl, rfl, by simp only [RelD], _, _, rfl, rfl, h, _, _, rfl, rfl, by simp only [RelD], _, _, rfl, rfl, by simp only [RelD], rfl⟩
theorem rel_row {M : Mem} {r0 : Int} {n9 : Option Bool} {l9 : Nat} {c9 : List PV} {A : Option Addr} {n c : Nat} (h : RelD M (.sl n9 5 l9 c9) (.slice A n c)) :
    RelD M (.agg [.int .i64 r0, .sl n9 5 l9 c9]) (.agg #[.int .i64 r0, .slice A n c]) := by
  rw [RelD]
  refine ⟨[.int .i64 r0, .slice A n c], rfl, ?_⟩
  simp only [RelL]
  exact ⟨_, _, rfl, rfl, by simp only [RelD], _, _, rfl, rfl, h, rfl⟩
theorem indexSpansLaw (W : World) (x0 : Int) (x1 : List UInt8) (A1 : Option Addr) (n1 c1 : Nat) (cols : List Int) (x3 : Bool) (x4 r0 : Int) (A2 : Option Addr) (n2 c2 : Nat) (l : List Cel) (A3 : Option Addr) (n3 c3 : Nat) (vs : List Val)
    (hs1 : Sl W 1 A1 n1 c1 (ivs cols)) (z1 : A1 = none → c1 = 0) (hs2 : Sl W 5 A2 n2 c2 (ccs l)) (z2 : A2 = none → c2 = 0) (hs3 : Sl W 4 A3 n3 c3 (vcs vs)) (z3 : A3 = none → c3 = 0) (hT : Tabs W) :
    Calls Tryd.prog 8 #[.agg #[.int .i64 x0, .string ⟨x1.toArray⟩, .slice A1 n1 c1, .bool x3, .int .i64 x4], .agg #[.int .i64 r0, .slice A2 n2 c2], .slice A3 n3 c3] W fun e W' => e = .returned (.bool true) ∧ Below W.heap.size W W' := by
  obtain ⟨B1, hB1⟩ := sl_rel hs1 z1 (fun M => rel_ints M cols)
  obtain ⟨B2, hB2⟩ := sl_rel hs2 z2 (fun M => rel_cels M l)
  obtain ⟨B3, hB3⟩ := sl_rel hs3 z3 (fun M => rel_vals M vs)
  obtain rfl := sl_lenI hs1
  obtain rfl := sl_len5 hs2
  obtain rfl := sl_len4 hs3
  exact law_run (vs := [.agg #[.int .i64 x0, .string ⟨x1.toArray⟩, .slice A1 cols.length c1, .bool x3, .int .i64 x4], .agg #[.int .i64 r0, .slice A2 l.length c2], .slice A3 vs.length c3])
    (xs := [.agg [.int .i64 x0, .str x1, .sl none 1 cols.length (colC cols), .bool x3, .int .i64 x4], .agg [.int .i64 r0, .sl none 5 l.length (celsC l)], .sl none 4 vs.length (valsC vs)]) (U := fun _ => B1 + B2 + B3) (fuel := vs.length + 1) (h := hIs) wokk ok_lIs Tryd.func8 hT (tabs_size hT)
    ⟨_, _, rfl, rel_index (hB1 _ (fun _ => by omega)), _, _, rfl, rel_row (hB2 _ (fun _ => by omega)), _, _, rfl, hB3 _ (fun _ => by omega), rfl⟩ (is_true x0 x1 none cols x3 x4 r0 none l none vs)
theorem indexOrderLaw (W : World) (x0 : Int) (x1 : List UInt8) (A1 : Option Addr) (n1 c1 : Nat) (cols : List Int) (x3 : Bool) (x4 r0 : Int) (A2 : Option Addr) (n2 c2 : Nat) (l : List Cel) (q0 : Int) (A3 : Option Addr) (n3 c3 : Nat) (m : List Cel)
    (hs1 : Sl W 1 A1 n1 c1 (ivs cols)) (z1 : A1 = none → c1 = 0) (hr0 : -9223372036854775808 ≤ r0 ∧ r0 ≤ 9223372036854775807) (hs2 : Sl W 5 A2 n2 c2 (ccs l)) (z2 : A2 = none → c2 = 0) (hl64 : ∀ y ∈ l, y.2.in64)
    (hq0 : -9223372036854775808 ≤ q0 ∧ q0 ≤ 9223372036854775807) (hs3 : Sl W 5 A3 n3 c3 (ccs m)) (z3 : A3 = none → c3 = 0) (hm64 : ∀ y ∈ m, y.2.in64) (hT : Tabs W) :
    Calls Tryd.prog 9 #[.agg #[.int .i64 x0, .string ⟨x1.toArray⟩, .slice A1 n1 c1, .bool x3, .int .i64 x4], .agg #[.int .i64 r0, .slice A2 n2 c2], .agg #[.int .i64 q0, .slice A3 n3 c3]] W fun e W' => e = .returned (.bool true) ∧ Below W.heap.size W W' := by
  obtain ⟨B1, hB1⟩ := sl_rel hs1 z1 (fun M => rel_ints M cols)
  obtain ⟨B2, hB2⟩ := sl_rel hs2 z2 (fun M => rel_cels M l)
  obtain ⟨B3, hB3⟩ := sl_rel hs3 z3 (fun M => rel_cels M m)
  obtain rfl := sl_lenI hs1
  obtain rfl := sl_len5 hs2
  obtain rfl := sl_len5 hs3
  exact law_run (vs := [.agg #[.int .i64 x0, .string ⟨x1.toArray⟩, .slice A1 cols.length c1, .bool x3, .int .i64 x4], .agg #[.int .i64 r0, .slice A2 l.length c2], .agg #[.int .i64 q0, .slice A3 m.length c3]])
    (xs := [.agg [.int .i64 x0, .str x1, .sl none 1 cols.length (colC cols), .bool x3, .int .i64 x4], .agg [.int .i64 r0, .sl none 5 l.length (celsC l)], .agg [.int .i64 q0, .sl none 5 m.length (celsC m)]]) (U := fun _ => B1 + B2 + B3) (fuel := 0) (h := ⟨[], []⟩) wokk ok_lIo Tryd.func9 hT (tabs_size hT)
    ⟨_, _, rfl, rel_index (hB1 _ (fun _ => by omega)), _, _, rfl, rel_row (hB2 _ (fun _ => by omega)), _, _, rfl, rel_row (hB3 _ (fun _ => by omega)), rfl⟩ (io_true x0 x1 none cols x3 x4 r0 none l q0 none m hr0 hq0 hl64 hm64)
end Go.Proofs.YtclhnfalebiieaaDoor
