/-
  TreeShapes: what it computes.
-/
import Derived.Test.YtmacjkiamejcnaaWa
set_option linter.unusedVariables false
set_option linter.unusedSimpArgs false
set_option maxRecDepth 100000
namespace Go.Proofs.Ytmacjkiamejcnaa
open Go.RowKit
def w16 (z : Int) : PV := .int .u16 z
theorem u16At_eq {S : Type} {ks : List Int} {i : Nat} {u : Int} (h : ks[i]? = some u) (k : Int → Option S) : u16At ks.length (ks.map w16) (i : Int) k = k u := by
  have hi := (List.getElem?_eq_some_iff.1 h).1
  unfold u16At
  rw [cond_t (by rw [decide_eq_true (by omega), decide_eq_true (by omega)]; rfl), Int.toNat_natCast, Nat.mul_one, List.head?_take, if_neg (by decide), List.head?_drop, List.getElem?_map, h]
  rfl
theorem rput_law {R : Type} {x : PV} {a : List (Ky × PV)} (hx : RootIs x a) (hl : a.length ≤ 100000) (fl : Option Bool) (k : Ky) (v : Int) (K : PV → Option R) :
    p_rput.F [.sl fl 2 a.length (pcs a), .str k, .int .i64 v] K = K (.tuple [pSl (insK k (.int .i64 v) a), .bool (!hasK k a)]) := by
  simp only [p_rput]
  rw [gP_of hl hx.vok, Option.bind_some, (srtB_iff a).2 hx.srt, cond_true]
  rfl
theorem rdel_law {R : Type} {x : PV} {a : List (Ky × PV)} (hx : RootIs x a) (hl : a.length ≤ 100000) (fl : Option Bool) (k : Ky) (K : PV → Option R) :
    p_rdel.F [.sl fl 2 a.length (pcs a), .str k] K = K (.tuple [pSl (delK k a), .bool (decide ((delK k a).length < a.length))]) := by
  simp only [p_rdel]
  rw [gP_of hl hx.vok, Option.bind_some]
  rfl
theorem rlev_law {R : Type} {n : Nat} (hn : n ≤ 100000) (K : PV → Option R) : p_rlev.F [.int .i64 (n : Int)] K = K (.int .i64 (refLev n : Int)) := by
  simp only [p_rlev]
  rw [cond_t (by rw [decide_eq_true (by omega), decide_eq_true (by omega)]; rfl), Int.toNat_natCast]
theorem lev_le {z n : Nat} (hn : n ≤ 50000) (h : z = 0 ∧ n = 0 ∨ 0 < z ∧ 0 < n ∧ (1 < z → 2 * 4 ^ (z - 1) ≤ n)) : z ≤ refLev n := by
  rcases h with ⟨rfl, _⟩ | ⟨h1, h2, h3⟩
  · exact Nat.zero_le _
  · by_cases h : 1 < z
    · have h4 := h3 h
      have h5 : 4 ^ (z - 1) = 4 ^ (z - 2) * 4 := by rw [← Nat.pow_succ]; congr 1; omega
      have h6 : z - 2 < 40 := by
        by_cases hz : z - 2 < 40
        · exact hz
        · have : 4 ^ 40 ≤ 4 ^ (z - 2) := Nat.pow_le_pow_right (by omega) (by omega)
          have e : (4 : Nat) ^ 40 = 1208925819614629174706176 := by decide
          omega
      have h7 : 0 < 4 ^ (z - 2) := Nat.pow_pos (by omega)
      have := refLev_ge (d := z - 2) (n := n) (by omega) h6
      omega
    · have : z = 1 := by omega
      subst this
      unfold refLev
      rw [if_neg (by omega)]
      exact lvF_ge 40 1 1 n
theorem len_zero {α : Type} {l : List α} : l = [] ↔ l.length = 0 := List.length_eq_zero_iff.symm
theorem lev_cases {x : PV} {l : List (Ky × PV)} (h : RootIs x l) (hl : l.length ≤ 50000) : ∃ n : Nat, (n = 0 ∧ l.length = 0 ∨ 0 < n ∧ 0 < l.length ∧ (1 < n → 2 * 4 ^ (n - 1) ≤ l.length)) ∧ ∀ {R : Type} (K : List (List PV) → PV → Option R), (hLev gLv).F [[x]] [.ptr 0 0] K = K [[x]] (.int .i64 (n : Int)) := by
  obtain ⟨n, h1, h2⟩ := lev_law h hl
  refine ⟨n, ?_, h2⟩
  rcases h1 with ⟨a, b⟩ | ⟨a, b, c⟩
  · exact .inl ⟨a, by rw [b]; rfl⟩
  · exact .inr ⟨a, List.length_pos_iff.2 b, c⟩
theorem lev_two {z n : Nat} (h : z = 0 ∧ n = 0 ∨ 0 < z ∧ 0 < n ∧ (1 < z → 2 * 4 ^ (z - 1) ≤ n)) (hn : n ≤ 8) : z ≤ 2 := by
  rcases h with ⟨rfl, _⟩ | ⟨h1, h2, h3⟩
  · omega
  · by_cases hz : z ≤ 2
    · exact hz
    · have h4 := h3 (by omega)
      have : 4 ^ 2 ≤ 4 ^ (z - 1) := Nat.pow_le_pow_right (by omega) (by omega)
      omega
theorem rank_at : ∀ {l : List (Ky × PV)} {i : Nat} {p : Ky × PV}, Srt l → l[i]? = some p → rankK p.1 l = i
  | [], i, p, h, hi => by simp at hi
  | q :: l, 0, p, h, hi => by
    simp at hi
    subst hi
    have h2 := (List.pairwise_cons.1 h).1
    unfold rankK
    rw [List.filter_cons_of_neg (by rw [kl_irr]; decide), List.filter_eq_nil_iff.2 fun r hr => by rw [kl_asym (h2 r hr)]; decide]
    rfl
  | q :: l, i + 1, p, h, hi => by
    rw [List.getElem?_cons_succ] at hi
    have h2 := List.pairwise_cons.1 h
    unfold rankK
    rw [List.filter_cons, if_pos (h2.1 p (List.mem_of_getElem? hi)), List.length_cons]
    have := rank_at h2.2 hi
    unfold rankK at this
    rw [this]
section
variable (ks : List Int) (hk : ks.length ≤ 600)
include hk
theorem sh_loop0 (fu : Nat) (gn : Option Bool) (gl : Nat) (gc : List PV) (nl : Option Bool) : ∀ (m i n : Nat) (x : PV) (a : List (Ky × PV)), i + m = ks.length → m < n → RootIs x a → a.length ≤ i →
    ∃ x' a', RootIs x' a' ∧ a'.length ≤ 600 ∧ shLoop0 fu n (frSh0 x (.sl gn 1 gl gc) (some a.isEmpty) a.length (pcs a) nl ks.length (ks.map w16) (ks.length : Int) (i : Int)) = shTail [1, 1, 1, 1, 1, 1] fu (frSh1 x' (.sl gn 1 gl gc) (some a'.isEmpty) a'.length (pcs a'))
  | m, i, 0, x, a, hi, hn, hx, ha => by omega
  | 0, i, n + 1, x, a, hi, hn, hx, ha => by
    refine ⟨x, a, hx, by omega, ?_⟩
    unfold shLoop0
    rw [loopF_succ, sh_step0 fu hx.isR]
    unfold shR0
    rw [cond_f (decide_eq_false (by omega))]
  | m + 1, i, n + 1, x, a, hi, hn, hx, ha => by
    have hp : ks[i]? = some ks[i] := List.getElem?_eq_getElem (by omega)
    obtain ⟨x', hx', ex⟩ := put_law hx (by omega) (key16 ks[i]) (i : Int)
    have la : (insK (key16 ks[i]) (.int .i64 (i : Int)) a).length ≤ i + 1 := by rw [ins_len hx.srt]; split <;> omega
    obtain ⟨z, hz, ez⟩ := lev_cases hx' (by omega)
    have hzl := lev_le (by omega) hz
    obtain ⟨x2, a2, h1, h2, h3⟩ := sh_loop0 fu gn gl gc nl m (i + 1) n x' _ (by omega) (by omega) hx' la
    refine ⟨x2, a2, h1, h2, ?_⟩
    rw [← h3]
    unfold shLoop0
    rw [loopF_succ, sh_step0 fu hx.isR]
    unfold shR0
    rw [cond_t (decide_eq_true (by omega)), u16At_eq hp, ex]
    simp only [on1]
    rw [rput_law hx (by omega)]
    simp only [onP, pSl]
    rw [ez]
    simp only [onI]
    rw [rlev_law (by omega)]
    simp only
    rw [cond_f (decide_eq_false (by omega)), wrapI_of (by omega) (by omega)]
    rfl
theorem sh_loop2 (fu : Nat) (nl : Option Bool) : ∀ (m i n : Nat) (x : PV) (a : List (Ky × PV)), i + m = ks.length → m < n → RootIs x a → a.length ≤ 600 →
    ∃ x' a', RootIs x' a' ∧ a'.length ≤ 600 ∧ shLoop2 fu n (frSh2 x (some a.isEmpty) a.length (pcs a) nl ks.length (ks.map w16) (ks.length : Int) (i : Int)) = shTail [1, 1, 1, 1, 1, 1, 1] fu (frSh3 x' (some a'.isEmpty) a'.length (pcs a'))
  | m, i, 0, x, a, hi, hn, hx, ha => by omega
  | 0, i, n + 1, x, a, hi, hn, hx, ha => by
    refine ⟨x, a, hx, by omega, ?_⟩
    unfold shLoop2
    rw [loopF_succ, sh_step2 fu hx.isR]
    unfold shR2
    rw [cond_f (decide_eq_false (by omega))]
  | m + 1, i, n + 1, x, a, hi, hn, hx, ha => by
    have hp : ks[i]? = some ks[i] := List.getElem?_eq_getElem (by omega)
    obtain ⟨x', hx', ex⟩ := del_law hx (by omega) (key16 ks[i])
    have la : (delK (key16 ks[i]) a).length ≤ 600 := by rw [del_len hx.srt]; split <;> omega
    obtain ⟨z, hz, ez⟩ := lev_cases hx' (by omega)
    have hzl := lev_le (by omega) hz
    obtain ⟨x2, a2, h1, h2, h3⟩ := sh_loop2 fu nl m (i + 1) n x' _ (by omega) (by omega) hx' la
    refine ⟨x2, a2, h1, h2, ?_⟩
    rw [← h3]
    unfold shLoop2
    rw [loopF_succ, sh_step2 fu hx.isR]
    unfold shR2
    rw [cond_t (decide_eq_true (by omega)), u16At_eq hp, rdel_law hx (by omega)]
    simp only [onP, pSl]
    rw [ex]
    simp only [on1]
    rw [ez]
    simp only [onI]
    rw [rlev_law (by omega)]
    simp only
    rw [cond_t (by rw [decide_eq_false (by omega)]; rfl), ez]
    simp only
    have hb : (((z : Int) == 0) == (((delK (key16 ks[i]) a).length : Int) == 0)) = true := by
      rcases hz with ⟨q1, q2⟩ | ⟨q1, q2, _⟩
      · rw [q1, q2]; rfl
      · rw [show ((z : Int) == 0) = false by simp; omega, show (((delK (key16 ks[i]) a).length : Int) == 0) = false by simp; intro h; rw [h] at q2; simp at q2]; rfl
    rw [hb, cond_t (by rfl), wrapI_of (by omega) (by omega)]
    by_cases hp0 : 0 < (delK (key16 ks[i]) a).length
    · rw [cond_t (decide_eq_true (by omega))]
      by_cases hp8 : (delK (key16 ks[i]) a).length ≤ 8
      · have := lev_two hz hp8
        rw [cond_t (decide_eq_true (by omega)), ez]
        simp only
        rw [cond_f (decide_eq_false (by omega))]
        rfl
      · rw [cond_f (decide_eq_false (by omega))]
        rfl
    · rw [cond_f (decide_eq_false (by omega))]
      rfl
end
theorem sh_end {x : PV} {a : List (Ky × PV)} (hx : RootIs x a) (ha : a.length ≤ 600) : shEnd x a.length = some (.bool true) := by
  unfold shEnd
  rw [at_law hx (by omega)]
  rw [if_neg (by omega), Int.toNat_natCast, List.getElem?_eq_none (Nat.le_refl _)]
  simp only [onA]
  rw [at_law hx (by omega), if_pos (by omega)]
  rfl
theorem sh_loop4 (fu : Nat) {x : PV} {a : List (Ky × PV)} (hx : RootIs x a) (ha : a.length ≤ 600) : ∀ (m i n : Nat), i + m = a.length → m < n →
    shLoop4 fu n (frSh4 x (some a.isEmpty) a.length (pcs a) (some a.isEmpty) a.length (pcs a) (a.length : Int) (i : Int)) = some (.bool true)
  | m, i, 0, hi, hn => by omega
  | 0, i, n + 1, hi, hn => by
    unfold shLoop4
    rw [loopF_succ, sh_step4 fu hx.isR]
    unfold shR4
    rw [cond_f (decide_eq_false (by omega))]
    exact sh_end hx ha
  | m + 1, i, n + 1, hi, hn => by
    have hp : a[i]? = some a[i] := List.getElem?_eq_getElem (by omega)
    have hv := hx.vok _ (List.getElem_mem (l := a) (n := i) (by omega))
    have ih := sh_loop4 fu hx ha m (i + 1) n (by omega) (by omega)
    unfold shLoop4 at ih ⊢
    rw [loopF_succ, sh_step4 fu hx.isR]
    unfold shR4
    rw [cond_t (decide_eq_true (by omega)), pairAt_eq hp hv, at_law hx (by omega), if_neg (by omega), Int.toNat_natCast, hp]
    simp only
    have e := valP_eq hv
    rw [show (PV.tuple [.str a[i].1, a[i].2, .bool true]) = .tuple [.str a[i].1, .int .i64 (valP a[i].2), .bool true] by rw [e]]
    simp only [onA]
    rw [show ((a[i].1 == a[i].1) = true) by simp, show ((valP a[i].2 == valP a[i].2) = true) by simp, cond_t (by rfl), rank_law hx (by omega), rank_at hx.srt hp]
    simp only [onI]
    rw [cond_f (by simp), wrapI_of (by omega) (by omega)]
    exact ih
theorem sh_true (ks gs : List Int) (nl ng : Option Bool) : prun enL hSh 2000 false fSh [.sl nl 1 ks.length (ks.map w16), .sl ng 1 gs.length (gs.map w16)] = some (.bool true) := by
  rw [sh_raw]
  by_cases hk : 600 < ks.length
  · rw [cond_f (by rw [decide_eq_true (by omega)]; rfl)]
  · by_cases hg : 600 < gs.length
    · rw [cond_t (by rw [decide_eq_false (by omega)]; rfl), cond_t (decide_eq_true (by omega))]
    · rw [cond_t (by rw [decide_eq_false (by omega)]; rfl), cond_f (decide_eq_false (by omega))]
      obtain ⟨x, a, h1, h2, h3⟩ := sh_loop0 ks (by omega) 2000 ng gs.length (gs.map w16) nl ks.length 0 2000 .nilptr [] (by omega) (by omega) (.inl ⟨rfl, rfl⟩) (by simp)
      refine h3.trans ?_
      rw [sh_tail1 2000 h1.isR]
      obtain ⟨y, b, h4, h5, h6⟩ := sh_loop2 gs (by omega) 2000 ng gs.length 0 2000 x a (by omega) (by omega) h1 h2
      refine h6.trans ?_
      rw [sh_tail2 2000 h4.isR]
      exact sh_loop4 2000 h4 h5 b.length 0 2000 (by omega) (by omega)
end Go.Proofs.Ytmacjkiamejcnaa
