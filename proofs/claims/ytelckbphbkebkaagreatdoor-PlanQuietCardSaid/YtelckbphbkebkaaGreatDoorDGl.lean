/-
  Decimal: wide numbers: what the inner functions compute.
  Decimal: wide numbers, continued: comparison, difference, double, division.
  Decimal: wide numbers: long division, bit by bit.
  Decimal: rounded quotients, products, signs, scales.
-/
import Derived.Test.YtelckbphbkebkaaGreatDoorPGw
import Derived.Test.YtelckbphbkebkaaGreatDoorFirst0
set_option linter.unusedVariables false
set_option linter.unusedSimpArgs false
namespace Go.Proofs.YtelckbphbkebkaaGreatDoor
open Go.RowKit

/-! ## size, ten -/
def sizeI (n : Int) : Int := bif decide (n < 0) then IntKind.u64.wrap (0 - IntKind.u64.wrap n) else IntKind.u64.wrap n
theorem sizeI_u (n : Int) : inU (sizeI n) = true := by
  rw [inU_iff]; unfold sizeI
  cases decide (n < 0) <;> simp only [cond_true, cond_false, wrapU] <;> omega
theorem sizeI_eq {n : Int} (h0 : -9223372036854775808 ≤ n) (h1 : n ≤ 9223372036854775807) : sizeI n = n.natAbs := by
  unfold sizeI
  by_cases h : n < 0
  · rw [decide_eq_true h, cond_true, wrapU, wrapU]; omega
  · rw [decide_eq_false h, cond_false, wrapU]; omega
def p_size : PFn := ⟨fun xs k => match xs with | [.int .i64 n] => k (.int .u64 (sizeI n)) | _ => none, false⟩
theorem size_raw (l : List (FuncId × PFn)) (n : Int) (fuel : Nat) : prun (en l) ⟨[], []⟩ fuel false Tryz.f142 [.int .i64 n] =
    bif decide (n < 0) then some (.int .u64 (IntKind.u64.wrap (0 - IntKind.u64.wrap n))) else some (.int .u64 (IntKind.u64.wrap n)) := by kernel_rfl
theorem ok_size : FOK NGd Wd 142 p_size := by
  refine fok wokd allOK_nil (h := ⟨[], []⟩) Tryz.func142 rfl (by decide) ?_ ?_
  · intro R xs k
    simp only [p_size]
    split <;> rfl
  · intro xs r h
    simp only [p_size] at h
    split at h
    · rename_i n
      injection h with h
      subst h
      refine ⟨0, (size_raw [] n 0).trans ?_⟩
      unfold sizeI
      cases decide (n < 0) <;> rfl
    · cases h

def tenI (n : Int) : Int := ((10 ^ (min n 13).toNat : Nat) : Int)
theorem tenI_le (n : Int) : 1 ≤ tenI n ∧ tenI n ≤ 10000000000000 := by
  unfold tenI
  have h : (min n 13).toNat ≤ 13 := by omega
  have h1 := Nat.pow_le_pow_right (n := 10) (by decide) h
  have h2 := Nat.pow_pos (a := 10) (n := (min n 13).toNat) (by decide)
  omega
theorem tenI_u (n : Int) : inU (tenI n) = true := by
  rw [inU_iff]; have := tenI_le n; omega
def p_ten : PFn := ⟨fun xs k => match xs with | [.int .i64 n] => k (.int .u64 (tenI n)) | _ => none, false⟩
def hTen : Hints := ⟨[], [(0, ⟨[(3, false), (5, false), (6, false)], []⟩)]⟩
def frTen (p m i : Int) : St := frame 12 [(3, (.int .u64 p, 0)), (5, (.int .i64 m, 0)), (6, (.int .i64 i, 0))] []
theorem ten_raw (l : List (FuncId × PFn)) (n : Int) (fuel : Nat) : prun (en l) hTen fuel false Tryz.f143 [.int .i64 n] =
    loopF (en l) hTen fuel false Tryz.f143 [1, 1, 0, 1, 0] 0 fuel (frTen 1 (if 13 < n then 13 else n) 0) := by kernel_rfl
theorem ten_step (l : List (FuncId × PFn)) (fuel : Nat) (p m i : Int) (K : St → Option PV) : stepF (en l) hTen fuel false Tryz.f143 [1, 1, 0, 1, 0] (frTen p m i) (fun st => pnorm (hTen.loop.lookup 0) st K) =
    bif decide (i < m) then K (frTen (IntKind.u64.wrap (p * 10)) m (IntKind.i64.wrap (i + 1))) else some (.int .u64 p) := by kernel_rfl
theorem ten_loop (l : List (FuncId × PFn)) (fuel : Nat) (m : Nat) (hm : m ≤ 13) : ∀ (n i : Nat), i ≤ m → m < n + i → loopF (en l) hTen fuel false Tryz.f143 [1, 1, 0, 1, 0] 0 n (frTen ((10 ^ i : Nat) : Int) m i) = some (.int .u64 ((10 ^ m : Nat) : Int))
  | 0, i, h, k => by omega
  | n + 1, i, h, k => by
    rw [loopF_succ, ten_step]
    by_cases e : i < m
    · have h1 := Nat.pow_le_pow_right (n := 10) (by decide) (show i + 1 ≤ 13 by omega)
      have ih := ten_loop l fuel m hm n (i + 1) (by omega) (by omega)
      rw [Nat.pow_succ] at h1 ih
      generalize 10 ^ i = P at *
      rw [cond_t (decide_eq_true (by omega)), wrapI_of (by omega) (by omega), wrapU_of (by omega) (by omega)]
      simpa using ih
    · have : i = m := by omega
      subst this
      rw [cond_f (decide_eq_false (by omega))]
theorem ok_ten : FOK NGd Wd 143 p_ten := by
  refine fok wokd allOK_nil (h := hTen) Tryz.func143 rfl (by decide) ?_ ?_
  · intro R xs k
    simp only [p_ten]
    split <;> rfl
  · intro xs r h
    simp only [p_ten] at h
    split at h
    · rename_i n
      injection h with h
      subst h
      refine ⟨20, (ten_raw [] n 20).trans ?_⟩
      by_cases hn : n < 0
      · rw [if_neg (by omega), loopF_succ, ten_step, cond_f (decide_eq_false (by omega))]
        unfold tenI
        rw [show (min n 13).toNat = 0 by omega]
        rfl
      · have := ten_loop [] 20 (min n 13).toNat (by omega) 20 0 (by omega) (by omega)
        unfold tenI
        rw [← this]
        congr 2
        split <;> omega
    · cases h
end Go.Proofs.YtelckbphbkebkaaGreatDoor
set_option linter.unusedVariables false
set_option linter.unusedSimpArgs false
namespace Go.Proofs.YtelckbphbkebkaaGreatDoor
open Go.RowKit

/-! ## comparison -/
def cmpI (a b : Int) : Int := bif decide (a < b) then -1 else bif decide (b < a) then 1 else 0
def p_nanU : PFn := ⟨fun xs k => match xs with | [.int .u64 _] => k (.bool false) | _ => none, false⟩
theorem ok_nanU : FOK NGd Wd 155 p_nanU := by
  refine fok wokd allOK_nil (h := ⟨[], []⟩) Tryz.func155 rfl (by decide) ?_ ?_
  · intro R xs k
    simp only [p_nanU]
    split <;> rfl
  · intro xs r h
    simp only [p_nanU] at h
    split at h
    · rename_i n
      injection h with h
      subst h
      have raw : prun (en []) ⟨[], []⟩ 0 false Tryz.f155 [.int .u64 n] = some (.bool (n != n)) := by kernel_rfl
      refine ⟨0, raw.trans ?_⟩
      simp
    · cases h
def p_cmpU : PFn := ⟨fun xs k => match xs with | [.int .u64 a, .int .u64 b] => k (.int .i64 (cmpI a b)) | _ => none, false⟩
theorem ok_cmpU : FOK NGd Wd 144 p_cmpU := by
  refine fok wokd (allOK_cons ok_nanU allOK_nil) (h := ⟨[], []⟩) Tryz.func144 rfl (by decide) ?_ ?_
  · intro R xs k
    simp only [p_cmpU]
    split <;> rfl
  · intro xs r h
    simp only [p_cmpU] at h
    split at h
    · rename_i a b
      injection h with h
      subst h
      have raw : prun (en [(155, p_nanU)]) ⟨[], []⟩ 0 false Tryz.f144 [.int .u64 a, .int .u64 b] = bif decide (a < b) then some (.int .i64 (-1)) else bif decide (b < a) then some (.int .i64 1) else some (.int .i64 0) := by kernel_rfl
      refine ⟨0, raw.trans ?_⟩
      unfold cmpI
      cases decide (a < b) <;> cases decide (b < a) <;> rfl
    · cases h
def orC (a b : Int) : Int := bif a != 0 then a else b
def hOr : Hints := ⟨[], [(0, ⟨[(3, false), (6, false), (7, false), (8, false)], []⟩)]⟩
def p_or2 : PFn := ⟨fun xs k => match xs with | [.sl _ 1 2 [.int .i64 a, .int .i64 b]] => k (.int .i64 (orC a b)) | _ => none, false⟩
theorem ok_or2 : FOK NGd Wd 78 p_or2 := by
  refine fok wokd allOK_nil (h := hOr) Tryz.func78 rfl (by decide) ?_ ?_
  · intro R xs k
    simp only [p_or2]
    split <;> rfl
  · intro xs r h
    simp only [p_or2] at h
    split at h
    · rename_i nl a b
      injection h with h
      subst h
      have raw : prun (en []) hOr 5 false Tryz.f78 [.sl nl 1 2 [.int .i64 a, .int .i64 b]] = bif a != 0 then some (.int .i64 a) else bif b != 0 then some (.int .i64 b) else some (.int .i64 0) := by kernel_rfl
      refine ⟨5, raw.trans ?_⟩
      unfold orC
      cases h1 : a != 0
      · cases h2 : b != 0
        · simp only [bne_eq_false_iff_eq] at h2
          subst h2; rfl
        · rfl
      · rfl
    · cases h
def lessI (h l h' l' : Int) : Bool := decide (orC (cmpI h h') (cmpI l l') < 0)
def N2 (h l : Int) : Int := h * 18446744073709551616 + l
theorem lessI_eq {h l h' l' : Int} (h1 : inU h = true) (h2 : inU l = true) (h3 : inU h' = true) (h4 : inU l' = true) : lessI h l h' l' = decide (N2 h l < N2 h' l') := by
  rw [inU_iff] at *
  unfold lessI orC cmpI N2
  by_cases a : h < h'
  · rw [decide_eq_true a]
    exact Eq.trans (b := true) rfl (decide_eq_true (by omega)).symm
  · by_cases b : h' < h
    · rw [decide_eq_false a, decide_eq_true b]
      exact Eq.trans (b := false) rfl (decide_eq_false (by omega)).symm
    · have e : h = h' := by omega
      subst e
      rw [decide_eq_false a]; simp only [cond_false]
      by_cases c : l < l'
      · rw [decide_eq_true c]
        exact Eq.trans (b := true) rfl (decide_eq_true (by omega)).symm
      · by_cases d : l' < l
        · rw [decide_eq_false c, decide_eq_true d]
          exact Eq.trans (b := false) rfl (decide_eq_false (by omega)).symm
        · rw [decide_eq_false c, decide_eq_false d]
          exact Eq.trans (b := false) rfl (decide_eq_false (by omega)).symm
def p_less : PFn := ⟨fun xs k => match xs with | [.agg [.int .u64 h, .int .u64 l], .agg [.int .u64 h', .int .u64 l']] => k (.bool (lessI h l h' l')) | _ => none, false⟩
theorem ok_less : FOK NGd Wd 159 p_less := by
  refine fok wokd (allOK_cons ok_or2 (allOK_cons ok_cmpU allOK_nil)) (h := ⟨[], []⟩) Tryz.func159 rfl (by decide) ?_ ?_
  · intro R xs k
    simp only [p_less]
    split <;> rfl
  · intro xs r h
    simp only [p_less] at h
    split at h
    · rename_i a b c d
      injection h with h
      subst h
      have raw : prun (en [(78, p_or2), (144, p_cmpU)]) ⟨[], []⟩ 0 false Tryz.f159 [.agg [.int .u64 a, .int .u64 b], .agg [.int .u64 c, .int .u64 d]] = some (.bool (lessI a b c d)) := by kernel_rfl
      exact ⟨0, raw⟩
    · cases h

/-! ## difference, double -/
def hiI (n : Int) : Int := n / 18446744073709551616 % 18446744073709551616
def loI (n : Int) : Int := n % 18446744073709551616
def W2 (n : Int) : PV := .agg [.int .u64 (hiI n), .int .u64 (loI n)]
theorem hiI_u (n : Int) : inU (hiI n) = true := by rw [inU_iff]; unfold hiI; omega
theorem loI_u (n : Int) : inU (loI n) = true := by rw [inU_iff]; unfold loI; omega
theorem N2_W2 {n : Int} (h0 : 0 ≤ n) (h1 : n < 340282366920938463463374607431768211456) : N2 (hiI n) (loI n) = n := by unfold N2 hiI loI; omega
theorem agg2 {a a' b b' : Int} (h : a = a') (k : b = b') : some (PV.agg [.int .u64 a, .int .u64 b]) = some (PV.agg [.int .u64 a', .int .u64 b']) := by rw [h, k]
def p_wsub : PFn := ⟨fun xs k => match xs with
  | [.agg [.int .u64 h, .int .u64 l], .agg [.int .u64 h', .int .u64 l']] => bif inU h && (inU l && (inU h' && inU l')) then k (W2 (N2 h l - N2 h' l')) else none
  | _ => none, false⟩
theorem ok_wsub : FOK NGd Wd 158 p_wsub := by
  refine fok wokd (allOK_cons ok_Sub64 allOK_nil) (h := ⟨[], []⟩) Tryz.func158 rfl (by decide) ?_ ?_
  · intro R xs k
    simp only [p_wsub]
    split
    · exact cond_nat
    · rfl
  · intro xs r h
    simp only [p_wsub] at h
    split at h
    · rename_i a b c d
      rcases hb : (inU a && (inU b && (inU c && inU d))) with _ | _ <;> rw [hb] at h
      · cases h
      · simp only [cond_true, Option.some.injEq] at h
        subst h
        simp only [Bool.and_eq_true, inU_iff] at hb
        have raw : prun (en [(170, p_Sub64)]) ⟨[], []⟩ 0 false Tryz.f158 [.agg [.int .u64 a, .int .u64 b], .agg [.int .u64 c, .int .u64 d]] =
            bif decide (0 ≤ b) && (decide (0 ≤ d) && (decide (d ≤ 18446744073709551615) && (decide ((0 : Int) ≤ 0) && decide ((0 : Int) ≤ 1)))) then
              bif decide (0 ≤ a) && (decide (0 ≤ c) && (decide (c ≤ 18446744073709551615) && (decide (0 ≤ bif decide (b < d + 0) then (1 : Int) else 0) && decide ((bif decide (b < d + 0) then (1 : Int) else 0) ≤ 1)))) then
                some (.agg [.int .u64 ((a - c - bif decide (b < d + 0) then (1 : Int) else 0) % 18446744073709551616), .int .u64 ((b - d - 0) % 18446744073709551616)])
              else none
            else none := by kernel_rfl
        refine ⟨0, raw.trans ?_⟩
        by_cases e : b < d
        · rw [decide_eq_true (show b < d + 0 by omega)]
          rw [cond_t (by simp; omega), cond_t (by simp; omega)]
          unfold W2 hiI loI N2
          simp only [cond_true]
          exact agg2 (by omega) (by omega)
        · rw [decide_eq_false (show ¬ b < d + 0 by omega)]
          rw [cond_t (by simp; omega), cond_t (by simp; omega)]
          unfold W2 hiI loI N2
          simp only [cond_false]
          exact agg2 (by omega) (by omega)
    · cases h

def orU (a b : Int) : Int := IntKind.u64.wrap ((BitVec.ofInt IntKind.u64.bits a ||| BitVec.ofInt IntKind.u64.bits b).toNat : Int)
def andU (a b : Int) : Int := IntKind.u64.wrap ((BitVec.ofInt IntKind.u64.bits a &&& BitVec.ofInt IntKind.u64.bits b).toNat : Int)
theorem ofInt_toNat {a : Int} (h0 : 0 ≤ a) (h1 : a < 18446744073709551616) : (BitVec.ofInt IntKind.u64.bits a).toNat = a.toNat := by
  rw [BitVec.toNat_ofInt]
  show (a % 18446744073709551616).toNat = _
  congr 1
  omega
theorem orU_even {a b : Int} (h0 : 0 ≤ a) (h1 : a < 18446744073709551616) (h2 : a % 2 = 0) (h3 : 0 ≤ b) (h4 : b ≤ 1) : orU a b = a + b := by
  unfold orU
  rw [BitVec.toNat_or, ofInt_toNat h0 h1, ofInt_toNat h3 (by omega)]
  obtain ⟨A, rfl⟩ := Int.eq_ofNat_of_zero_le h0
  obtain ⟨B, rfl⟩ := Int.eq_ofNat_of_zero_le h3
  have := Nat.two_pow_add_eq_or_of_lt (i := 1) (b := B) (by omega) (A / 2)
  rw [show 2 ^ 1 * (A / 2) = A by omega] at this
  simp only [Int.toNat_natCast]
  rw [← this, wrapU_of (by omega) (by omega)]
  omega
theorem andU_one {a : Int} (h0 : 0 ≤ a) (h1 : a < 18446744073709551616) : andU a 1 = a % 2 := by
  unfold andU
  rw [BitVec.toNat_and, ofInt_toNat h0 h1, ofInt_toNat (by omega) (by omega)]
  obtain ⟨A, rfl⟩ := Int.eq_ofNat_of_zero_le h0
  simp only [Int.toNat_natCast]
  rw [show Int.toNat 1 = 1 from rfl, Nat.and_one_is_mod, wrapU_of (by omega) (by omega)]
  omega
theorem orU_low {a b : Int} (h0 : 0 ≤ a) (h1 : a < 18446744073709551616) (h2 : a % 2 = 0) (h3 : 0 ≤ b) (h4 : b ≤ 1) : orU a b = a + b := orU_even h0 h1 h2 h3 h4
def p_double : PFn := ⟨fun xs k => match xs with
  | [.agg [.int .u64 h, .int .u64 l]] => bif inU h && inU l then k (W2 (2 * N2 h l)) else none
  | _ => none, false⟩
theorem ok_double : FOK NGd Wd 169 p_double := by
  refine fok wokd allOK_nil (h := ⟨[], []⟩) Tryz.func169 rfl (by decide) ?_ ?_
  · intro R xs k
    simp only [p_double]
    split
    · exact cond_nat
    · rfl
  · intro xs r h
    simp only [p_double] at h
    split at h
    · rename_i a b
      rcases hb : (inU a && inU b) with _ | _ <;> rw [hb] at h
      · cases h
      · simp only [cond_true, Option.some.injEq] at h
        subst h
        simp only [Bool.and_eq_true, inU_iff] at hb
        have raw : prun (en []) ⟨[], []⟩ 0 false Tryz.f169 [.agg [.int .u64 a, .int .u64 b]] =
            some (.agg [.int .u64 (orU (IntKind.u64.wrap (a * 2 ^ min (Int.toNat 1) IntKind.u64.bits)) (b.fdiv (2 ^ min (Int.toNat 63) IntKind.u64.bits))), .int .u64 (IntKind.u64.wrap (b * 2 ^ min (Int.toNat 1) IntKind.u64.bits))]) := by kernel_rfl
        refine ⟨0, raw.trans ?_⟩
        have e1 : ((2 : Int) ^ min (Int.toNat 1) IntKind.u64.bits) = 2 := by decide
        have e2 : ((2 : Int) ^ min (Int.toNat 63) IntKind.u64.bits) = 9223372036854775808 := by decide
        rw [e1, e2, wrapU, wrapU, Int.fdiv_eq_ediv_of_nonneg _ (by decide), orU_even (by omega) (by omega) (by omega) (by omega) (by omega)]
        unfold W2 hiI loI N2
        exact agg2 (by omega) (by omega)
    · cases h
end Go.Proofs.YtelckbphbkebkaaGreatDoor
set_option linter.unusedVariables false
set_option linter.unusedSimpArgs false
namespace Go.Proofs.YtelckbphbkebkaaGreatDoor
open Go.RowKit

def hOver : Hints := ⟨[], [(0, ⟨[(2, false), (3, false), (4, false), (5, false), (6, false), (7, false), (8, false)], [2, 3, 4, 5, 6, 7]⟩)]⟩
def frOver (wh wl xh xl qh ql rh rl i : Int) : St := frame 57 [(2, (.ptr 2 0, 0)), (3, (.ptr 3 0, 0)), (4, (.ptr 4 0, 0)), (5, (.ptr 5 0, 0)), (6, (.ptr 6 0, 0)), (7, (.ptr 7 0, 0)), (8, (.int .i64 i, 0))]
  [(2, [(.int .u64 wh, 0), (.int .u64 wl, 0)]), (3, [(.int .u64 xh, 0), (.int .u64 xl, 0)]), (4, [(.int .u64 0, 0), (.int .u64 0, 0)]), (5, [(.int .u64 0, 0), (.int .u64 0, 0)]), (6, [(.int .u64 qh, 0), (.int .u64 ql, 0)]), (7, [(.int .u64 rh, 0), (.int .u64 rl, 0)])]
noncomputable def lOver : List (FuncId × PFn) := [(169, p_double), (159, p_less), (158, p_wsub)]
noncomputable def overLoop (n : Nat) (st : St) : Option PV := loopF (en lOver) hOver 130 false Tryz.f157 [1, 1, 0, 1, 0] 0 n st
theorem over_raw (a b c d : Int) : prun (en lOver) hOver 130 false Tryz.f157 [.agg [.int .u64 a, .int .u64 b], .agg [.int .u64 c, .int .u64 d]] =
    overLoop 130 (frOver a b c d 0 0 0 0 127) := by kernel_rfl
def oBit (h l i : Int) (k : Int → Option PV) : Option PV :=
  bif decide (i < 0) then none else
  bif decide (64 ≤ i) then (bif decide (IntKind.i64.wrap (i - 64) < 0) then none else k (andU (h.fdiv (2 ^ min (IntKind.i64.wrap (i - 64)).toNat IntKind.u64.bits)) 1)) else k (andU (l.fdiv (2 ^ min i.toNat IntKind.u64.bits)) 1)
def overBody (wh wl xh xl qh ql rh rl i : Int) (G : Int → Int → Int → Int → Int → Option PV) : Option PV :=
    bif decide (0 ≤ i) then oBit wh wl i fun b =>
      bif inU rh && inU rl then bif inU qh && inU ql then
        bif !(rh.fdiv (2 ^ min (Int.toNat 63) IntKind.u64.bits) == 1) then
          bif (bif false then true else !lessI (hiI (2 * N2 rh rl)) (orU (loI (2 * N2 rh rl)) b) xh xl) then bif inU (hiI (2 * N2 rh rl)) && (inU (orU (loI (2 * N2 rh rl)) b) && (inU xh && inU xl)) then
            G (hiI (2 * N2 qh ql)) (orU (loI (2 * N2 qh ql)) 1) (hiI (N2 (hiI (2 * N2 rh rl)) (orU (loI (2 * N2 rh rl)) b) - N2 xh xl)) (loI (N2 (hiI (2 * N2 rh rl)) (orU (loI (2 * N2 rh rl)) b) - N2 xh xl)) (IntKind.i64.wrap (i - 1))
          else none
          else G (hiI (2 * N2 qh ql)) (loI (2 * N2 qh ql)) (hiI (2 * N2 rh rl)) (orU (loI (2 * N2 rh rl)) b) (IntKind.i64.wrap (i - 1))
        else bif inU (hiI (2 * N2 rh rl)) && (inU (orU (loI (2 * N2 rh rl)) b) && (inU xh && inU xl)) then
            G (hiI (2 * N2 qh ql)) (orU (loI (2 * N2 qh ql)) 1) (hiI (N2 (hiI (2 * N2 rh rl)) (orU (loI (2 * N2 rh rl)) b) - N2 xh xl)) (loI (N2 (hiI (2 * N2 rh rl)) (orU (loI (2 * N2 rh rl)) b) - N2 xh xl)) (IntKind.i64.wrap (i - 1))
          else none
      else none else none
    else some (.tuple [.agg [.int .u64 qh, .int .u64 ql], .agg [.int .u64 rh, .int .u64 rl]])
theorem over_step (wh wl xh xl qh ql rh rl i : Int) (K : St → Option PV) :
    stepF (en lOver) hOver 130 false Tryz.f157 [1, 1, 0, 1, 0] (frOver wh wl xh xl qh ql rh rl i) (fun st => pnorm (hOver.loop.lookup 0) st K) =
    overBody wh wl xh xl qh ql rh rl i (fun a b c d e => K (frOver wh wl xh xl a b c d e)) := by kernel_rfl

theorem hiI_nat {w : Nat} (h : w < 340282366920938463463374607431768211456) : hiI w = ((w / 18446744073709551616 : Nat) : Int) := by unfold hiI; omega
theorem loI_nat (w : Nat) : loI w = ((w % 18446744073709551616 : Nat) : Int) := by unfold loI; omega
theorem cdiv_pow (a k : Nat) : ((a : Int).fdiv (2 ^ k)) = ((a / 2 ^ k : Nat) : Int) := by
  have h : ((2 : Int) ^ k) = ((2 ^ k : Nat) : Int) := by simp
  rw [h, Int.fdiv_eq_ediv_of_nonneg _ (Int.natCast_nonneg _), Int.natCast_ediv]
theorem andU_nat {a : Nat} (h : a < 18446744073709551616) : andU (a : Int) 1 = ((a % 2 : Nat) : Int) := by rw [andU_one (by omega) (by omega)]; omega
theorem oBit_eq {w m : Nat} (hw : w < 340282366920938463463374607431768211456) (hm : m ≤ 127) (k : Int → Option PV) : oBit (hiI w) (loI w) m k = k ((w / 2 ^ m % 2 : Nat) : Int) := by
  unfold oBit
  rw [cond_f (decide_eq_false (by omega))]
  by_cases h : 64 ≤ m
  · rw [cond_t (decide_eq_true (by omega)), wrapI_of (by omega) (by omega), cond_f (decide_eq_false (by omega)), hiI_nat hw]
    have e : min ((m : Int) - 64).toNat IntKind.u64.bits = m - 64 := by show min _ 64 = _; omega
    rw [e, cdiv_pow, andU_nat (Nat.lt_of_le_of_lt (Nat.div_le_self _ _) (by omega)), Nat.div_div_eq_div_mul, show 18446744073709551616 = 2 ^ 64 from rfl, ← Nat.pow_add, show 64 + (m - 64) = m by omega]
  · rw [cond_f (decide_eq_false (by omega)), loI_nat]
    have e : min (m : Int).toNat IntKind.u64.bits = m := by show min _ 64 = _; omega
    rw [e, cdiv_pow, andU_nat (Nat.lt_of_le_of_lt (Nat.div_le_self _ _) (by omega))]
    have h1 : 18446744073709551616 = 2 ^ m * 2 ^ (64 - m) := by rw [← Nat.pow_add, show m + (64 - m) = 64 by omega]
    rw [h1, Nat.mod_mul_right_div_self, Nat.mod_mod_of_dvd]
    exact ⟨2 ^ (64 - m - 1), (by rw [← Nat.pow_succ', show (64 - m - 1).succ = 64 - m by omega])⟩

/-- what is known ahead of the bits below m -/
def frDiv (w x m : Nat) : St := frOver (hiI w) (loI w) (hiI x) (loI x) (hiI (w / 2 ^ m / x : Nat)) (loI (w / 2 ^ m / x : Nat)) (hiI (w / 2 ^ m % x : Nat)) (loI (w / 2 ^ m % x : Nat)) ((m : Int) - 1)
theorem div_bit {a x b : Nat} (hx : 0 < x) (hb : b ≤ 1) : (2 * a + b) / x = 2 * (a / x) + (if x ≤ 2 * (a % x) + b then 1 else 0) ∧ (2 * a + b) % x = (if x ≤ 2 * (a % x) + b then 2 * (a % x) + b - x else 2 * (a % x) + b) := by
  have h1 := Nat.div_add_mod a x
  have h2 := Nat.mod_lt a hx
  generalize a % x = r at *
  generalize a / x = q at *
  subst h1
  have e : 2 * (x * q + r) + b = (2 * r + b) + x * (2 * q) := by rw [Nat.mul_left_comm]; omega
  rw [e, Nat.add_mul_div_left _ _ hx, Nat.add_mul_mod_self_left]
  by_cases h : x ≤ 2 * r + b
  · rw [if_pos h, if_pos h, Nat.div_eq_sub_div hx h, Nat.mod_eq_sub_mod h, Nat.div_eq_of_lt (by omega), Nat.mod_eq_of_lt (by omega)]
    exact ⟨by omega, rfl⟩
  · rw [if_neg h, if_neg h, Nat.div_eq_of_lt (by omega), Nat.mod_eq_of_lt (by omega)]
    exact ⟨by omega, rfl⟩
theorem v1 {q : Nat} : hiI (2 * q) = hiI (2 * q + 1 : Nat) := by unfold hiI; omega
theorem v2 {q : Nat} : loI (2 * q) + 1 = loI (2 * q + 1 : Nat) := by unfold loI; omega
theorem v3 {r b : Nat} (hb : b ≤ 1) : N2 (hiI (2 * r)) (loI (2 * r) + b) = (2 * (r : Int) + b) % 340282366920938463463374607431768211456 := by unfold N2 hiI loI; omega
theorem v4 {y : Int} {z : Nat} (h : (y - z) % 340282366920938463463374607431768211456 = 0) : hiI y = hiI z ∧ loI y = loI z := by unfold hiI loI; omega
theorem v5 {r b : Nat} (hb : b ≤ 1) : hiI (2 * r) = hiI (2 * r + b : Nat) := by unfold hiI; omega
theorem v6 {r b : Nat} (hb : b ≤ 1) : loI (2 * r) + b = loI (2 * r + b : Nat) := by unfold loI; omega
theorem v7 {q : Nat} : hiI (2 * q) = hiI (2 * q + 0 : Nat) := by unfold hiI; omega
theorem v8 {q : Nat} : loI (2 * q) = loI (2 * q + 0 : Nat) := by unfold loI; omega
theorem div_body {w x m : Nat} (hw : w < 340282366920938463463374607431768211456) (hx : 0 < x) (hx2 : x < 340282366920938463463374607431768211456) (hm : m ≤ 127) (G : Int → Int → Int → Int → Int → Option PV) :
    overBody (hiI w) (loI w) (hiI x) (loI x) (hiI (w / 2 ^ (m + 1) / x : Nat)) (loI (w / 2 ^ (m + 1) / x : Nat)) (hiI (w / 2 ^ (m + 1) % x : Nat)) (loI (w / 2 ^ (m + 1) % x : Nat)) (m : Int) G =
    G (hiI (w / 2 ^ m / x : Nat)) (loI (w / 2 ^ m / x : Nat)) (hiI (w / 2 ^ m % x : Nat)) (loI (w / 2 ^ m % x : Nat)) ((m : Int) - 1) := by
  unfold overBody
  rw [cond_t (decide_eq_true (by omega)), oBit_eq hw hm, cond_t (by simp [hiI_u, loI_u]), cond_t (by simp [hiI_u, loI_u]), wrapI_of (by omega) (by omega)]
  have hA : w / 2 ^ m = 2 * (w / 2 ^ (m + 1)) + w / 2 ^ m % 2 := by
    rw [Nat.pow_succ, ← Nat.div_div_eq_div_mul]; omega
  have hb : w / 2 ^ m % 2 ≤ 1 := by omega
  have hAw : w / 2 ^ (m + 1) ≤ w := Nat.div_le_self _ _
  obtain ⟨d1, d2⟩ := div_bit (a := w / 2 ^ (m + 1)) hx hb
  rw [← hA] at d1 d2
  rw [d1, d2]
  generalize w / 2 ^ m % 2 = b at *
  generalize w / 2 ^ (m + 1) = a at *
  clear d1 d2 hA
  have hr := Nat.mod_lt a hx
  have hq : a / x ≤ a := Nat.div_le_self _ _
  generalize a % x = r at *
  generalize a / x = q at *
  have er : N2 (hiI r) (loI r) = r := N2_W2 (by omega) (by omega)
  have eq : N2 (hiI q) (loI q) = q := N2_W2 (by omega) (by omega)
  have ex : N2 (hiI x) (loI x) = x := N2_W2 (by omega) (by omega)
  have eo : orU (loI (2 * r)) b = loI (2 * r) + b := orU_even (by unfold loI; omega) (by unfold loI; omega) (by unfold loI; omega) (by omega) (by omega)
  have eo1 : orU (loI (2 * q)) 1 = loI (2 * q) + 1 := orU_even (by unfold loI; omega) (by unfold loI; omega) (by unfold loI; omega) (by omega) (by omega)
  rw [er, eq, ex, eo, eo1]
  have u1 : inU (loI (2 * r) + b) = true := by rw [inU_iff]; unfold loI; omega
  rw [lessI_eq (hiI_u _) u1 (hiI_u _) (loI_u _), ex, cond_t (show (inU (hiI (2 * r)) && (inU (loI (2 * r) + b) && (inU (hiI x) && inU (loI x)))) = true by simp [hiI_u, loI_u, u1])]
  have e63 : ((hiI r).fdiv (2 ^ min (Int.toNat 63) IntKind.u64.bits) == 1) = decide (170141183460469231731687303715884105728 ≤ r) := by
    rw [hiI_nat (by omega), show min (Int.toNat 63) IntKind.u64.bits = 63 from rfl, cdiv_pow]
    rw [Bool.eq_iff_iff]
    simp only [beq_iff_eq, decide_eq_true_eq]
    omega
  rw [e63]
  have fin : ∀ {q0 q1 r0 r1 : Int} {q' r' : Int}, q0 = hiI q' → q1 = loI q' → r0 = hiI r' → r1 = loI r' → G q0 q1 r0 r1 ((m : Int) - 1) = G (hiI q') (loI q') (hiI r') (loI r') ((m : Int) - 1) := by
    intro _ _ _ _ _ _ h1 h2 h3 h4; rw [h1, h2, h3, h4]
  rw [v3 hb]
  by_cases c : 170141183460469231731687303715884105728 ≤ r
  · have hc : x ≤ 2 * r + b := by omega
    have k := v4 (y := (2 * (r : Int) + b) % 340282366920938463463374607431768211456 - x) (z := 2 * r + b - x) (by omega)
    rw [decide_eq_true c, if_pos hc, if_pos hc]
    simp only [Bool.not_true, cond_false]
    exact fin v1 v2 k.1 k.2
  · rw [decide_eq_false c]
    simp only [Bool.not_false, cond_true, cond_false]
    by_cases d : x ≤ 2 * r + b
    · have k := v4 (y := (2 * (r : Int) + b) % 340282366920938463463374607431768211456 - x) (z := 2 * r + b - x) (by omega)
      have hd : ((2 * (r : Int) + b) % 340282366920938463463374607431768211456 < x) = False := by simp only [eq_iff_iff, iff_false]; omega
      simp only [hd, decide_false, Bool.not_false, cond_true]
      rw [if_pos d, if_pos d]
      exact fin v1 v2 k.1 k.2
    · have hd : ((2 * (r : Int) + b) % 340282366920938463463374607431768211456 < x) = True := by simp only [eq_iff_iff, iff_true]; omega
      simp only [hd, decide_true, Bool.not_true, cond_false]
      rw [if_neg d, if_neg d]
      exact fin v7 v8 (v5 hb) (v6 hb)
theorem div_step {w x m : Nat} (hw : w < 340282366920938463463374607431768211456) (hx : 0 < x) (hx2 : x < 340282366920938463463374607431768211456) (hm : m ≤ 127) (K : St → Option PV) :
    stepF (en lOver) hOver 130 false Tryz.f157 [1, 1, 0, 1, 0] (frDiv w x (m + 1)) (fun st => pnorm (hOver.loop.lookup 0) st K) = K (frDiv w x m) := by
  have e : ((m + 1 : Nat) : Int) - 1 = (m : Int) := by omega
  unfold frDiv
  rw [over_step, e, div_body hw hx hx2 hm]
theorem div_loop {w x : Nat} (hw : w < 340282366920938463463374607431768211456) (hx : 0 < x) (hx2 : x < 340282366920938463463374607431768211456) : ∀ (m n : Nat), m ≤ 128 → m < n → overLoop n (frDiv w x m) = some (.tuple [W2 (w / x : Nat), W2 (w % x : Nat)])
  | 0, n + 1, _, _ => by
    unfold overLoop
    rw [loopF_succ]
    unfold frDiv
    rw [over_step, overBody, cond_f (decide_eq_false (by omega))]
    simp only [Nat.pow_zero, Nat.div_one]
    rfl
  | m + 1, n + 1, h, k => by
    unfold overLoop
    rw [loopF_succ, div_step hw hx hx2 (by omega)]
    exact div_loop hw hx hx2 m n (by omega) (by omega)

def p_over : PFn := ⟨fun xs k => match xs with
  | [.agg [.int .u64 h, .int .u64 l], .agg [.int .u64 h', .int .u64 l']] => bif inU h && (inU l && (inU h' && (inU l' && decide (0 < N2 h' l')))) then k (.tuple [W2 (N2 h l / N2 h' l'), W2 (N2 h l % N2 h' l')]) else none
  | _ => none, false⟩
theorem ok_over : FOK NGd Wd 157 p_over := by
  refine fok wokd (l := lOver) (allOK_cons ok_double (allOK_cons ok_less (allOK_cons ok_wsub allOK_nil))) (h := hOver) Tryz.func157 rfl (by decide) ?_ ?_
  · intro R xs k
    simp only [p_over]
    split
    · exact cond_nat
    · rfl
  · intro xs r h
    simp only [p_over] at h
    split at h
    · rename_i a b c d
      rcases hb : (inU a && (inU b && (inU c && (inU d && decide (0 < N2 c d))))) with _ | _ <;> rw [hb] at h
      · cases h
      · simp only [cond_true, Option.some.injEq] at h
        subst h
        simp only [Bool.and_eq_true, inU_iff, decide_eq_true_eq] at hb
        obtain ⟨ha, hb, hc, hd, hp⟩ := hb
        refine ⟨130, (over_raw a b c d).trans ?_⟩
        obtain ⟨w, hw⟩ := Int.eq_ofNat_of_zero_le (show 0 ≤ N2 a b by unfold N2; omega)
        obtain ⟨x, hx⟩ := Int.eq_ofNat_of_zero_le (show 0 ≤ N2 c d by unfold N2; omega)
        have hw2 : w < 340282366920938463463374607431768211456 := by unfold N2 at hw; omega
        have hx2 : x < 340282366920938463463374607431768211456 := by unfold N2 at hx; omega
        have := div_loop hw2 (x := x) (by omega) hx2 128 130 (by omega) (by omega)
        rw [hw, hx, ← Int.natCast_ediv, ← Int.natCast_emod, ← this]
        unfold frDiv
        rw [Nat.div_eq_of_lt (show w < 2 ^ 128 from hw2)]
        simp only [Nat.zero_div, Nat.zero_mod]
        unfold N2 at hw hx
        rw [show hiI w = a by unfold hiI; omega, show loI w = b by unfold loI; omega, show hiI x = c by unfold hiI; omega, show loI x = d by unfold loI; omega]
        rfl
    · cases h
end Go.Proofs.YtelckbphbkebkaaGreatDoor
set_option linter.unusedVariables false
set_option linter.unusedSimpArgs false
namespace Go.Proofs.YtelckbphbkebkaaGreatDoor
open Go.RowKit

def roundI (a b : Int) : Int := a / b + bif decide (b ≤ 2 * (a % b)) then 1 else 0
def p_rounded : PFn := ⟨fun xs k => match xs with
  | [.agg [.int .u64 h, .int .u64 l], .agg [.int .u64 h', .int .u64 l']] => bif inU h && (inU l && (inU h' && (inU l' && decide (0 < N2 h' l')))) then k (W2 (roundI (N2 h l) (N2 h' l'))) else none
  | _ => none, false⟩
noncomputable def lRounded : List (FuncId × PFn) := [(157, p_over), (158, p_wsub), (159, p_less), (160, p_Add64)]
def roundBody (h l h' l' : Int) : Option PV :=
  bif inU h && (inU l && (inU h' && (inU l' && decide (0 < N2 h' l')))) then
    bif inU h' && (inU l' && (inU (hiI (N2 h l % N2 h' l')) && inU (loI (N2 h l % N2 h' l')))) then
      bif !lessI (hiI (N2 h l % N2 h' l')) (loI (N2 h l % N2 h' l')) (hiI (N2 h' l' - N2 (hiI (N2 h l % N2 h' l')) (loI (N2 h l % N2 h' l')))) (loI (N2 h' l' - N2 (hiI (N2 h l % N2 h' l')) (loI (N2 h l % N2 h' l')))) then
        bif decide (0 ≤ loI (N2 h l / N2 h' l')) && (decide ((0 : Int) ≤ 1) && (decide ((0 : Int) ≤ 0) && decide ((0 : Int) ≤ 1))) then
          some (.agg [.int .u64 (IntKind.u64.wrap (hiI (N2 h l / N2 h' l') + (loI (N2 h l / N2 h' l') + 1 + 0) / 18446744073709551616)), .int .u64 ((loI (N2 h l / N2 h' l') + 1 + 0) % 18446744073709551616)])
        else none
      else some (.agg [.int .u64 (hiI (N2 h l / N2 h' l')), .int .u64 (loI (N2 h l / N2 h' l'))])
    else none
  else none
theorem rounded_raw (a b c d : Int) : prun (en lRounded) ⟨[], []⟩ 0 false Tryz.f147 [.agg [.int .u64 a, .int .u64 b], .agg [.int .u64 c, .int .u64 d]] = roundBody a b c d := by kernel_rfl
theorem w1 {q : Int} : IntKind.u64.wrap (hiI q + (loI q + 1 + 0) / 18446744073709551616) = hiI (q + 1) := by rw [wrapU]; unfold hiI loI; omega
theorem w2 {q : Int} : (loI q + 1 + 0) % 18446744073709551616 = loI (q + 1) := by unfold loI; omega
theorem round_body {a b c d : Int} (ha : inU a = true) (hb : inU b = true) (hc : inU c = true) (hd : inU d = true) (h : 0 < N2 c d) : roundBody a b c d = some (W2 (roundI (N2 a b) (N2 c d))) := by
  unfold roundBody
  rw [cond_t (by simp [ha, hb, hc, hd, h]), cond_t (by simp [hc, hd, hiI_u, loI_u]), lessI_eq (hiI_u _) (loI_u _) (hiI_u _) (loI_u _)]
  rw [inU_iff] at ha hb hc hd
  have hx : 0 ≤ N2 a b := by unfold N2; omega
  have hx2 : N2 a b < 340282366920938463463374607431768211456 := by unfold N2; omega
  have hy2 : N2 c d < 340282366920938463463374607431768211456 := by unfold N2; omega
  generalize N2 a b = x at *
  generalize N2 c d = y at *
  have r0 := Int.emod_nonneg x (show y ≠ 0 by omega)
  have r1 := Int.emod_lt_of_pos x h
  unfold roundI
  generalize x % y = r at *
  generalize x / y = q at *
  rw [N2_W2 (n := r) r0 (by omega), N2_W2 (n := y - r) (by omega) (by omega), w1, w2]
  by_cases k : r < y - r
  · rw [decide_eq_true k, decide_eq_false (show ¬ y ≤ 2 * r by omega)]
    simp only [Bool.not_true, cond_false, Int.add_zero]
    rfl
  · rw [decide_eq_false k, decide_eq_true (show y ≤ 2 * r by omega)]
    simp only [Bool.not_false, cond_true]
    rw [cond_t (by unfold loI; simp; omega)]
    rfl
theorem ok_rounded : FOK NGd Wd 147 p_rounded := by
  refine fok wokd (l := lRounded) (allOK_cons ok_over (allOK_cons ok_wsub (allOK_cons ok_less (allOK_cons ok_Add64 allOK_nil)))) (h := ⟨[], []⟩) Tryz.func147 rfl (by decide) ?_ ?_
  · intro R xs k
    simp only [p_rounded]
    split
    · exact cond_nat
    · rfl
  · intro xs r h
    simp only [p_rounded] at h
    split at h
    · rename_i a b c d
      rcases hb : (inU a && (inU b && (inU c && (inU d && decide (0 < N2 c d))))) with _ | _ <;> rw [hb] at h
      · cases h
      · simp only [cond_true, Option.some.injEq] at h
        subst h
        simp only [Bool.and_eq_true, decide_eq_true_eq] at hb
        exact ⟨0, (rounded_raw a b c d).trans (round_body hb.1 hb.2.1 hb.2.2.1 hb.2.2.2.1 hb.2.2.2.2)⟩
    · cases h

/-! ## products -/
def p_Mul64 : PFn := ⟨fun xs k => match xs with
  | [.int .u64 x, .int .u64 y] => bif inU x && inU y then k (.tuple [.int .u64 (x * y / 18446744073709551616), .int .u64 (x * y % 18446744073709551616)]) else none
  | _ => none, false⟩
theorem ok_Mul64 : FOK NGd Wd 154 p_Mul64 := by
  refine fok_calls Tryz.func154 (by kernel_rfl) (by decide) ?_ rfl ?_
  · intro R xs k
    simp only [p_Mul64]
    split
    · exact cond_nat
    · rfl
  · intro xs r M vs hW h hr
    simp only [p_Mul64] at h
    split at h
    · rename_i x y
      rcases hb : (inU x && inU y) with _ | _ <;> rw [hb] at h
      · cases h
      · simp only [cond_true, Option.some.injEq] at h
        subst h
        simp only [Bool.and_eq_true, inU_iff] at hb
        obtain ⟨v, u, rfl, h1, h2⟩ := relT2 hr
        simp only [RelD] at h1 h2
        subst h1 h2
        obtain ⟨X, rfl⟩ := Int.eq_ofNat_of_zero_le hb.1.1
        obtain ⟨Y, rfl⟩ := Int.eq_ofNat_of_zero_le hb.2.1
        refine (Any.bits_Mul64 Tryz.lays264 X Y (by omega) (by omega) M.w).mono ?_
        rintro e w' ⟨rfl, rfl⟩
        exact ⟨_, rfl, Below.refl _ _, fun U' _ => relT_ints2 (by simp)⟩
    · cases h
def p_times : PFn := ⟨fun xs k => match xs with
  | [.int .u64 x, .int .u64 y] => bif inU x && inU y then k (W2 (x * y)) else none
  | _ => none, false⟩
theorem prod_lt {x y : Int} (h0 : 0 ≤ x) (h1 : x < 18446744073709551616) (h2 : 0 ≤ y) (h3 : y < 18446744073709551616) : 0 ≤ x * y ∧ x * y < 340282366920938463463374607431768211456 := by
  refine ⟨Int.mul_nonneg h0 h2, ?_⟩
  have k := Int.mul_le_mul (show x ≤ 18446744073709551615 by omega) (show y ≤ 18446744073709551615 by omega) h2 (by decide)
  omega
theorem ok_times : FOK NGd Wd 141 p_times := by
  refine fok wokd (allOK_cons ok_Mul64 allOK_nil) (h := ⟨[], []⟩) Tryz.func141 rfl (by decide) ?_ ?_
  · intro R xs k
    simp only [p_times]
    split
    · exact cond_nat
    · rfl
  · intro xs r h
    simp only [p_times] at h
    split at h
    · rename_i x y
      rcases hb : (inU x && inU y) with _ | _ <;> rw [hb] at h
      · cases h
      · simp only [cond_true, Option.some.injEq] at h
        subst h
        have raw : prun (en [(154, p_Mul64)]) ⟨[], []⟩ 0 false Tryz.f141 [.int .u64 x, .int .u64 y] =
            bif inU x && inU y then some (.agg [.int .u64 (x * y / 18446744073709551616), .int .u64 (x * y % 18446744073709551616)]) else none := by kernel_rfl
        refine ⟨0, raw.trans ?_⟩
        rw [cond_t hb]
        simp only [Bool.and_eq_true, inU_iff] at hb
        have := prod_lt hb.1.1 hb.1.2 hb.2.1 hb.2.2
        generalize x * y = z at *
        exact agg2 (by unfold hiI; omega) rfl
    · cases h

/-! ## signs -/
def signedK {R : Type} (h l : Int) (m : Bool) (k : PV → Option R) : Option R :=
  bif decide (0 < h) || decide (9223372036854775808 < l) || (l == 9223372036854775808 && !m) then k (.tuple [.int .i64 0, .int .i64 20]) else
  bif m then k (.tuple [.int .i64 (IntKind.i64.wrap (IntKind.u64.wrap (0 - l))), .int .i64 0]) else k (.tuple [.int .i64 (IntKind.i64.wrap l), .int .i64 0])
theorem signed_raw (l : List (FuncId × PFn)) (a b : Int) (m : Bool) (fuel : Nat) : prun (en l) ⟨[], []⟩ fuel false Tryz.f146 [.agg [.int .u64 a, .int .u64 b], .bool m] = signedK a b m some := by kernel_rfl
/-- the signed number of a size, and the error -/
def sgn (n : Int) (m : Bool) : Int := bif m then -n else n
def over64 (n : Int) : Bool := decide (n < -9223372036854775808) || decide (9223372036854775807 < n)
/-- an answer: the number if it can be held, else an error -/
def ansV (n : Int) : Int := bif over64 n then 0 else n
def ansE (n : Int) : Int := bif over64 n then 20 else 0
def ansI (n : Int) : PV := .tuple [.int .i64 (ansV n), .int .i64 (ansE n)]
theorem signedK_eq {h l : Int} {m : Bool} (hh : inU h = true) (hl : inU l = true) : signedK h l m some = some (ansI (sgn (N2 h l) m)) := by
  rw [inU_iff] at hh hl
  have big : (9223372036854775808 < N2 h l ∨ (N2 h l = 9223372036854775808 ∧ m = false)) → (decide (0 < h) || decide (9223372036854775808 < l) || (l == 9223372036854775808 && !m)) = true := by
    unfold N2
    intro k
    simp only [Bool.or_eq_true, Bool.and_eq_true, decide_eq_true_eq, beq_iff_eq, Bool.not_eq_true']
    by_cases c : 0 < h
    · exact .inl (.inl c)
    · rcases k with k | ⟨k, e⟩
      · exact .inl (.inr (by omega))
      · exact .inr ⟨by omega, e⟩
  have small : N2 h l ≤ 9223372036854775808 → (N2 h l = 9223372036854775808 → m = true) → (decide (0 < h) || decide (9223372036854775808 < l) || (l == 9223372036854775808 && !m)) = false ∧ N2 h l = l := by
    unfold N2
    intro k1 k2
    have h0 : h = 0 := by omega
    subst h0
    refine ⟨?_, by omega⟩
    rw [decide_eq_false (by omega), decide_eq_false (by omega)]
    by_cases c : l = 9223372036854775808
    · rw [k2 (by omega)]; simp
    · rw [beq_eq_false_iff_ne.2 c]; rfl
  have h0 : 0 ≤ N2 h l := by unfold N2; omega
  unfold signedK ansI ansV ansE over64 sgn
  by_cases a : 9223372036854775808 < N2 h l ∨ (N2 h l = 9223372036854775808 ∧ m = false)
  · rw [cond_t (big a)]
    cases m <;> simp only [cond_true, cond_false]
    · have : 9223372036854775808 ≤ N2 h l := a.elim (fun a => Int.le_of_lt a) (fun a => Int.le_of_eq a.1.symm)
      rw [decide_eq_false (by omega), decide_eq_true (by omega)]; rfl
    · have : 9223372036854775808 < N2 h l := a.elim (fun a => a) (fun a => absurd a.2 (by decide))
      rw [decide_eq_true (by omega)]; rfl
  · obtain ⟨k, e⟩ := small (Int.not_lt.1 fun k => a (.inl k)) (fun e => by cases m with | true => rfl | false => exact (a (.inr ⟨e, rfl⟩)).elim)
    rw [cond_f k, e]
    rw [e] at a h0
    cases m <;> simp only [cond_true, cond_false]
    · have : l < 9223372036854775808 := by
        rcases Int.lt_trichotomy l 9223372036854775808 with k | k | k
        · exact k
        · exact (a (.inr ⟨k, rfl⟩)).elim
        · exact (a (.inl k)).elim
      rw [decide_eq_false (by omega), decide_eq_false (by omega), wrapI_of (by omega) (by omega)]
      simp
    · have : l ≤ 9223372036854775808 := Int.not_lt.1 fun k => a (.inl k)
      rw [decide_eq_false (by omega), decide_eq_false (by omega), wrapU, IntKind.wrap_i64]
      simp only [Bool.or_self, cond_false, Option.some.injEq, PV.tuple.injEq, List.cons.injEq, PV.int.injEq, true_and, and_true]
      omega
def p_signed : PFn := ⟨fun xs k => match xs with
  | [.agg [.int .u64 h, .int .u64 l], .bool m] => bif inU h && inU l then k (ansI (sgn (N2 h l) m)) else none
  | _ => none, false⟩
theorem ok_signed : FOK NGd Wd 146 p_signed := by
  refine fok wokd allOK_nil (h := ⟨[], []⟩) Tryz.func146 rfl (by decide) ?_ ?_
  · intro R xs k
    simp only [p_signed]
    split
    · exact cond_nat
    · rfl
  · intro xs r h
    simp only [p_signed] at h
    split at h
    · rename_i a b m
      rcases hb : (inU a && inU b) with _ | _ <;> rw [hb] at h
      · cases h
      · simp only [cond_true, Option.some.injEq] at h
        subst h
        simp only [Bool.and_eq_true] at hb
        exact ⟨0, (signed_raw [] a b m 0).trans (signedK_eq hb.1 hb.2)⟩
    · cases h

end Go.Proofs.YtelckbphbkebkaaGreatDoor
