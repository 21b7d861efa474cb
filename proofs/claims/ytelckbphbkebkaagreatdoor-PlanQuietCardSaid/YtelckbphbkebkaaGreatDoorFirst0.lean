/-
  Decimal: the functions that stand in the model itself.
-/
import Derived.Test.YtelckbphbkebkaaGreatDoorPGw
import Derived.Test.YtelckbphbkebkaaGreatDoorDshelf
import Derived.Shelf.Strconv.Itoa3
set_option linter.unusedVariables false
set_option linter.unusedSimpArgs false
namespace Go.Proofs.YtelckbphbkebkaaGreatDoor
open Go.RowKit

/-! ## what is asked of the world: one table -/
def NGd : Nat := 5 + 1
noncomputable def Wd (w : World) : Prop := Lib.TabIs Tryz.prog w "internal/strconv.uint64pow10" .u64 Lib.pow10Tab
theorem gPow : Tryz.prog.globalNamed "internal/strconv.uint64pow10" = some 5 := by kernel_rfl
theorem wd_size {w : World} (h : Wd w) : NGd ≤ w.heap.size := by
  unfold Wd Lib.TabIs World.var? at h
  rw [gPow] at h
  simp only [Option.bind_some] at h
  unfold NGd
  rcases e : w.heap[5]? with _ | o
  · rw [e] at h; cases h
  · exact (Array.getElem?_eq_some_iff.1 e).1
theorem wokd : WOK NGd Wd := by
  intro w w' h hW
  have hg : Tryz.prog.globalNamed "internal/strconv.uint64pow10" = some 5 := by kernel_rfl
  unfold Wd Lib.TabIs World.var? at hW ⊢
  rw [hg] at hW ⊢
  rw [← hW]
  simp only [Option.bind_some]
  rw [h _ (of_decide_eq_true (by kernel_rfl))]

theorem cond_nat {R : Type} {b : Bool} {x : PV} {k : PV → Option R} : (bif b then k x else none) = (bif b then some x else none).bind k := by cases b <;> rfl
def p_Add64 : PFn := ⟨fun xs k => match xs with
  | [.int .u64 x, .int .u64 y, .int .u64 c] => bif decide (0 ≤ x) && (decide (0 ≤ y) && (decide (0 ≤ c) && decide (c ≤ 1))) then k (.tuple [.int .u64 ((x + y + c) % 18446744073709551616), .int .u64 ((x + y + c) / 18446744073709551616)]) else none
  | _ => none, false⟩
theorem ok_Add64 : FOK NGd Wd 160 p_Add64 := by
  refine fok_ext ?_ rfl ?_
  · intro R xs k
    simp only [p_Add64]
    split
    · exact cond_nat
    · rfl
  · intro xs r M vs h hr
    simp only [p_Add64] at h
    split at h
    · rename_i x y c
      rcases hb : (decide (0 ≤ x) && (decide (0 ≤ y) && (decide (0 ≤ c) && decide (c ≤ 1)))) with _ | _ <;> rw [hb] at h
      · cases h
      · simp only [cond_true, Option.some.injEq] at h
        subst h
        simp only [Bool.and_eq_true, decide_eq_true_eq] at hb
        obtain ⟨v, u, t, rfl, h1, h2, h3⟩ := relT3 hr
        simp only [RelD] at h1 h2 h3
        subst h1 h2 h3
        refine ⟨_, ?_, relT_ints2 rfl⟩
        rw [run_callFunc_extern Tryz.func160 (by kernel_rfl) (by kernel_rfl) (by kernel_rfl) (e := add64Entry) (by kernel_rfl)]
        show ((add64Entry #[.int .u64 x, .int .u64 y, .int .u64 c]).run _ _).andThen _ = _
        rw [run_add64 x y c hb.1 hb.2.1 hb.2.2.1 hb.2.2.2]
        rfl
    · cases h

/-- what stands in the model for Sub64 -/
def subEntry : Array Value → Sem Value := fun args => do
  let (x, y, b) ← Extern.MathBitsCarry.three "Sub64" args
  pure (Extern.MathBitsCarry.pair ((x + Extern.MathBitsCarry.m64 - y - b) % Extern.MathBitsCarry.m64) (if x < y + b then 1 else 0))
theorem run_sub {P : Program} (x y b : Nat) (hb : b ≤ 1) (w : World) :
    (subEntry #[.int .u64 x, .int .u64 y, .int .u64 b]).run P w =
      .ok (.tuple #[.int .u64 (((x + 18446744073709551616 - y - b) % 18446744073709551616 : Nat) : Int), .int .u64 ((if x < y + b then 1 else 0 : Nat) : Int)]) w := by
  have : b = 0 ∨ b = 1 := by omega
  rcases this with rfl | rfl <;> rfl
def p_Sub64 : PFn := ⟨fun xs k => match xs with
  | [.int .u64 x, .int .u64 y, .int .u64 c] => bif decide (0 ≤ x) && (decide (0 ≤ y) && (decide (y ≤ 18446744073709551615) && (decide (0 ≤ c) && decide (c ≤ 1)))) then k (.tuple [.int .u64 ((x - y - c) % 18446744073709551616), .int .u64 (bif decide (x < y + c) then 1 else 0)]) else none
  | _ => none, false⟩
theorem ok_Sub64 : FOK NGd Wd 170 p_Sub64 := by
  refine fok_ext ?_ rfl ?_
  · intro R xs k
    simp only [p_Sub64]
    split
    · exact cond_nat
    · rfl
  · intro xs r M vs h hr
    simp only [p_Sub64] at h
    split at h
    · rename_i x y c
      rcases hb : (decide (0 ≤ x) && (decide (0 ≤ y) && (decide (y ≤ 18446744073709551615) && (decide (0 ≤ c) && decide (c ≤ 1))))) with _ | _ <;> rw [hb] at h
      · cases h
      · simp only [cond_true, Option.some.injEq] at h
        subst h
        simp only [Bool.and_eq_true, decide_eq_true_eq] at hb
        obtain ⟨v, u, t, rfl, h1, h2, h3⟩ := relT3 hr
        simp only [RelD] at h1 h2 h3
        subst h1 h2 h3
        obtain ⟨hx, hy, hy2, hc, hc2⟩ := hb
        obtain ⟨X, rfl⟩ := Int.eq_ofNat_of_zero_le hx
        obtain ⟨Y, rfl⟩ := Int.eq_ofNat_of_zero_le hy
        obtain ⟨C, rfl⟩ := Int.eq_ofNat_of_zero_le hc
        refine ⟨_, ?_, relT_ints2 rfl⟩
        rw [run_callFunc_extern Tryz.func170 (by kernel_rfl) (by kernel_rfl) (by kernel_rfl) (e := subEntry) (by kernel_rfl)]
        show ((subEntry #[.int .u64 X, .int .u64 Y, .int .u64 C]).run _ _).andThen _ = _
        rw [run_sub X Y C (by omega)]
        simp only [Result.andThen]
        have e1 : (((X + 18446744073709551616 - Y - C) % 18446744073709551616 : Nat) : Int) = ((X : Int) - Y - C) % 18446744073709551616 := by omega
        have e2 : ((if X < Y + C then 1 else 0 : Nat) : Int) = bif decide ((X : Int) < (Y : Int) + C) then 1 else 0 := by
          by_cases h : X < Y + C
          · rw [if_pos h, decide_eq_true (by omega)]; rfl
          · rw [if_neg h, decide_eq_false (by omega)]; rfl
        rw [e1, e2]
    · cases h

/-- the first place of a byte -/
def firstIx (c : Int) : Nat → List UInt8 → Int
  | _, [] => -1
  | i, x :: xs => bif decide ((x.toNat : Int) = c) then (i : Int) else firstIx c (i + 1) xs
theorem find_range (s : ByteArray) (c : UInt8) : ∀ (l : List UInt8) (i : Nat), (∀ j, j < l.length → s[i + j]! = l.getD j 0) → (match (List.range' i l.length).find? fun i => s[i]! == c with | some i => (i : Int) | none => -1) = firstIx c.toNat i l
  | [], i, h => rfl
  | x :: l, i, h => by
    have h0 := h 0 (by simp)
    simp only [Nat.add_zero, List.getD_cons_zero] at h0
    simp only [List.length_cons, List.range'_succ, List.find?_cons, h0, firstIx]
    by_cases e : x = c
    · subst e
      simp
    · have e2 : (x == c) = false := by simpa using e
      have e3 : ¬ ((x.toNat : Int) = (c.toNat : Int)) := fun h => e (UInt8.toNat_inj.1 (by omega))
      rw [e2, decide_eq_false e3]
      simp only [cond_false]
      have := find_range s c l (i + 1) (fun j hj => by have := h (j + 1) (by simpa using hj); simpa [Nat.add_assoc, Nat.add_comm 1 j] using this)
      exact this
theorem firstIdx_eq (l : List UInt8) (c : UInt8) : firstIdx ⟨l.toArray⟩ c = firstIx c.toNat 0 l := by
  unfold firstIdx
  have := find_range ⟨l.toArray⟩ c l 0 (fun j hj => by
    rw [Nat.zero_add]
    have hs : j < (⟨l.toArray⟩ : ByteArray).size := by simpa [ByteArray.size] using hj
    rw [getElem!_pos (⟨l.toArray⟩ : ByteArray) j hs]
    simp [ByteArray.getElem_eq_getElem_data, List.getD, hj])
  rw [← List.range_eq_range'] at this
  rw [← this]
  rfl
def p_IndexByteString : PFn := ⟨fun xs k => match xs with
  | [.str s, .int .u8 c] => bif decide (0 ≤ c) && decide (c ≤ 255) then k (.int .i64 (firstIx c 0 s)) else none
  | _ => none, false⟩
theorem ok_IndexByteString : FOK NGd Wd 187 p_IndexByteString := by
  refine fok_ext ?_ rfl ?_
  · intro R xs k
    simp only [p_IndexByteString]
    split
    · exact cond_nat
    · rfl
  · intro xs r M vs h hr
    simp only [p_IndexByteString] at h
    split at h
    · rename_i s c
      rcases hb : (decide (0 ≤ c) && decide (c ≤ 255)) with _ | _ <;> rw [hb] at h
      · cases h
      · simp only [cond_true, Option.some.injEq] at h
        subst h
        simp only [Bool.and_eq_true, decide_eq_true_eq] at hb
        obtain ⟨v, u, rfl, h1, h2⟩ := relT2 hr
        simp only [RelD] at h1 h2
        subst h1 h2
        refine ⟨_, ?_, rfl⟩
        rw [run_callFunc_extern Tryz.func187 (by kernel_rfl) (by kernel_rfl) (by kernel_rfl) (e := Extern.BytealgIndexByte.indexByte) (by kernel_rfl)]
        show ((Extern.BytealgIndexByte.indexByte #[.string ⟨s.toArray⟩, .int .u8 c]).run _ _).andThen _ = _
        rw [run_indexByte_string, firstIdx_eq]
        have e : ((c.toNat.toUInt8).toNat : Int) = c := by
          simp
          omega
        rw [e]
        rfl
    · cases h

/-- the decimal numeral, by a bound -/
def decD : Nat → Nat → List UInt8
  | 0, _ => []
  | k + 1, u => bif decide (u < 10) then [UInt8.ofNat (48 + u)] else decD k (u / 10) ++ [UInt8.ofNat (48 + u % 10)]
theorem decD_eq : ∀ (k u : Nat), u < 10 ^ (k + 1) → decD (k + 1) u = Lib.decDigits u
  | k, u, h => by
    rw [Lib.decDigits, decD]
    by_cases hu : u < 10
    · rw [decide_eq_true hu, dif_pos hu]; rfl
    · rw [decide_eq_false hu, dif_neg hu, cond_false]
      match k, h with
      | 0, h => omega
      | k + 1, h => rw [decD_eq k (u / 10) (by rw [Nat.pow_succ] at h; omega)]
def itoaD (n : Int) : List UInt8 := bif decide (n < 0) then 45 :: decD 20 n.natAbs else decD 20 n.toNat
theorem itoaD_eq (n : Int) (h0 : -9223372036854775808 ≤ n) (h1 : n ≤ 9223372036854775807) : itoaD n = Lib.itoa n := by
  unfold itoaD Lib.itoa
  by_cases h : n < 0
  · rw [decide_eq_true h, if_pos h, cond_true, decD_eq 19 _ (by omega)]
  · rw [decide_eq_false h, if_neg h, cond_false, decD_eq 19 _ (by omega)]
def p_Itoa : PFn := ⟨fun xs k => match xs with
  | [.int .i64 n] => bif decide (-9223372036854775808 ≤ n) && decide (n ≤ 9223372036854775807) then k (.str (itoaD n)) else none
  | _ => none, false⟩
theorem ok_Itoa : FOK NGd Wd 125 p_Itoa := by
  refine fok_calls Tryz.func125 (by kernel_rfl) (by decide) ?_ rfl ?_
  · intro R xs k
    simp only [p_Itoa]
    split
    · exact cond_nat
    · rfl
  · intro xs r M vs hW h hr
    simp only [p_Itoa] at h
    split at h
    · rename_i n
      rcases hb : (decide (-9223372036854775808 ≤ n) && decide (n ≤ 9223372036854775807)) with _ | _ <;> rw [hb] at h
      · cases h
      · simp only [cond_true, Option.some.injEq] at h
        subst h
        simp only [Bool.and_eq_true, decide_eq_true_eq] at hb
        obtain ⟨v, rfl, h1⟩ := relT1 hr
        simp only [RelD] at h1
        subst h1
        refine (Any.strconv_Itoa Tryz.laysM171 n hb.1 hb.2 M.w hW).mono ?_
        rintro e w' ⟨rfl, k, os, rfl⟩
        refine ⟨_, rfl, ?_, fun U' _ => ?_⟩
        · exact (below_drewN (Below.refl _ _) k).trans ⟨rfl, rfl, rfl, by simp [Sort.grow], fun b hb => by simp only [Sort.grow]; rw [Array.getElem?_append_left (Nat.lt_of_lt_of_le hb (below_drewN (Below.refl M.w.heap.size _) k).size)]⟩
        · simp only [RelD]
          rw [itoaD_eq n hb.1 hb.2]
    · cases h

end Go.Proofs.YtelckbphbkebkaaGreatDoor
