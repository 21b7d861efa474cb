/-
  The reference of layer 5: power, bytes8.
-/
import Derived.Test.YtclhnfalebiieaaDoorLawCode
import Derived.Test.YtclhnfalebiieaaDoorConv
set_option linter.unusedVariables false
set_option linter.unusedSimpArgs false
namespace Go.Proofs.YtclhnfalebiieaaDoor
open Go.RowKit

theorem pow256_le {j : Nat} (h : j ≤ 6) : ((256 ^ j : Nat) : Int) ≤ 281474976710656 := by
  have := Nat.pow_le_pow_right (show 0 < 256 by omega) h
  omega
set_option maxHeartbeats 1000000 in
theorem power_any (k : Nat) (hk : k ≤ 7) (w : World) : Calls Tryd.prog 58 #[.int .i64 (k : Int)] w fun e w' => e = .returned (.int .u64 ((256 ^ k : Nat) : Int)) ∧ w = w' := by
  go_enter Tryd.func58, Tryd.ntmps58
  go_wp2_with fail
  go_loopw [3, 4] (fun p i wr => ∃ (j : Nat) (q : Int), j ≤ k ∧ i = .int .i64 (j : Int) ∧ p = .int .u64 q ∧ Hid (q = ((256 ^ j : Nat) : Int)) ∧ w = wr) (fun _ i _ => k - (intOf i).toNat)
  case atStart => exact ⟨0, 1, by omega, rfl, rfl, hide rfl, rfl⟩
  case round =>
    obtain ⟨j, q, hj, rfl, rfl, hq, rfl⟩ := hrel
    by_cases hlt : j < k
    · have hlt' : (j : Int) < (k : Int) := by omega
      have h0 : 0 ≤ q := by rw [unhide hq]; exact Int.natCast_nonneg _
      have h1 : q ≤ 281474976710656 := by rw [unhide hq]; exact pow256_le (by omega)
      have hn : Hid (q * 256 = ((256 ^ (j + 1) : Nat) : Int)) := hide (by rw [unhide hq, Nat.pow_succ]; omega)
      go_wp2_with fail
      go_roundw
      case rel => exact ⟨j + 1, q * 256, by omega, by go_num, by go_num, hn, trivial⟩
      case measure => exact (by first | (simp [intOf]; done) | (simp [intOf]; omega))
    · obtain rfl : j = k := by omega
      go_wp2_with fail
      go_ret
      have e := unhide hq
      subst e
      exact ⟨rfl, rfl⟩

/-- the i lowest bytes of a number, the greatest of them first -/
def loB (u : Nat) : Nat → List UInt8
  | 0 => []
  | i + 1 => UInt8.ofNat (u / 256 ^ i % 256) :: loB u i
theorem loB_length (u : Nat) : ∀ i, (loB u i).length = i
  | 0 => rfl
  | i + 1 => by rw [loB, List.length_cons, loB_length]
theorem ofNat_eq {a b : Nat} (h : a = b) : UInt8.ofNat a = UInt8.ofNat b := by rw [h]
theorem be8_loB (n : Int) (u : Nat) (hu : u = (n % 18446744073709551616).toNat) : be8 n = UInt8.ofNat ((u / 256 ^ 7 % 256 + 128) % 256) :: loB u 7 := by
  have hf : flipN n = (u + 9223372036854775808) % 18446744073709551616 := by
    rw [hu]; unfold flipN; omega
  have hlt : u < 18446744073709551616 := by omega
  clear hu
  unfold be8 beTo
  rw [hf]
  simp only [List.range_succ, List.range_zero, List.nil_append, List.cons_append, List.map_cons, List.map_nil, loB]
  simp only [Nat.reduceMul, Nat.reduceSub, Nat.reducePow, List.cons.injEq, and_true]
  refine ⟨ofNat_eq ?_, ofNat_eq ?_, ofNat_eq ?_, ofNat_eq ?_, ofNat_eq ?_, ofNat_eq ?_, ofNat_eq ?_, ofNat_eq ?_⟩ <;> omega
theorem OwnB.one (w : World) (B : Nat) (c : UInt8) (i : Int) (hi : i = (c.toNat : Int)) (h : B ≤ w.heap.size) : OwnB (w.alloc (.cells #[.int .u8 i] 5)) B (.slice (some ⟨w.heap.size, 0, none⟩) 1 1) [c] := by
  subst hi
  exact ⟨rfl, .inr ⟨w.heap.size, 1, #[.int .u8 (c.toNat : Int)], rfl, h, heap_alloc_new w _, Nat.le_refl _, by simp [maxLen], rfl, rfl⟩⟩
theorem byte_mod (d : Nat) : (d : Int) % 256 = ((UInt8.ofNat (d % 256)).toNat : Int) := by
  rw [UInt8.toNat_ofNat']
  omega
theorem byte_xor (c : UInt8) : bits BinOp.xor IntKind.u8 (c.toNat : Int) 128 = ((c.toNat : Int) + 128) % 256 := by
  rw [xor_u8_top _ c.toNat_lt]
  omega
theorem byte_xor' (c : UInt8) : ((c.toNat : Int) + 128) % 256 = ((UInt8.ofNat ((c.toNat + 128) % 256)).toNat : Int) := by
  rw [UInt8.toNat_ofNat']
  omega

set_option maxHeartbeats 1000000 in
theorem bytes8_any (n : Int) (w : World) : Calls Tryd.prog 49 #[.int .i64 n] w (Ret w (.string ⟨(be8 n).toArray⟩)) := by
  obtain ⟨u, hu⟩ : ∃ u : Nat, u = (n % 18446744073709551616).toNat := ⟨_, rfl⟩
  have hb8 := be8_loB n u hu
  have hwu : IntKind.u64.wrap n = (u : Int) := by rw [wrapu_nat, hu]
  have hlt : u < 18446744073709551616 := by omega
  obtain ⟨ANS, hA⟩ : ∃ a, be8 n = a := ⟨_, rfl⟩
  rw [hA] at hb8 ⊢
  have HA := hide hb8
  clear hb8 hu hA
  go_enter Tryd.func49, Tryd.ntmps49
  go_wp2_with fail
  go_loopw [3, 4] (fun b i wr => ∃ (j : Nat) (l : List UInt8), j ≤ 8 ∧ i = .int .i64 (j : Int) ∧ l.length = j ∧ OwnB wr w.heap.size b l ∧ Hid (l = loB u j) ∧ Below w.heap.size w wr) (fun _ i _ => 8 - (intOf i).toNat)
  case atStart => exact ⟨0, [], by omega, rfl, rfl, OwnB.nil _ _, hide rfl, Below.refl _ _⟩
  case round =>
    obtain ⟨j, l, hj, rfl, hl, ho, hlo, hb⟩ := hrel
    have hbs := hb.size
    by_cases hlt' : j < 8
    · have hjlt : (j : Int) < 8 := by omega
      obtain ⟨q, hq⟩ : ∃ q : Nat, 256 ^ j = q := ⟨_, rfl⟩
      have hq0 : 0 < q := by rw [← hq]; exact Nat.pow_pos (by omega)
      have hq0' : (0 : Int) < (q : Int) := by omega
      have hc := fun W => power_any j (by omega) W
      simp only [hq] at hc
      have Hc := hide hc
      have HQ := hide hq
      have HL := hide hl
      have hj8 : j ≤ 7 := by omega
      obtain ⟨d, hd⟩ : ∃ d : Nat, u / q = d := ⟨_, rfl⟩
      have hdu : d ≤ u := by rw [← hd]; exact Nat.div_le_self _ _
      have hwd : IntKind.u64.wrap ((u : Int) / (q : Int)) = (d : Int) := by
        rw [← Int.natCast_ediv, hd, IntKind.wrap_u64]; omega
      have HD := hide hd
      have hl8 : l.length ≤ 8 := by omega
      clear hc hq hl hd
      obtain ⟨A1, c1, hv, hs1⟩ := ho.form
      subst hv
      go_wp2_with (first
        | (go_at_call 58; refine (unhide Hc _).mono ?_; rintro e w1 ⟨rfl, rfl⟩)
        | (refine app_bytes rfl (.tmp 16) (.tmp 17) rfl rfl (OwnB.one _ w.heap.size (UInt8.ofNat (d % 256)) _ (byte_mod d) (by omega)) rfl (hs1.alloc _) ?_ ?_ ?_; (· simp; omega); (· simp; omega); intro v2 w2 ho2 hx2))
      go_roundw
      case rel =>
        refine ⟨j + 1, _, by omega, by go_num, ?_, ho2, hide ?_, ?_⟩
        · simp [unhide HL]
        · rw [loB, ← unhide hlo, unhide HQ, unhide HD]; rfl
        · exact (show Below w.heap.size w (wr.alloc _) from (by repeat (first | with_reducible exact Below.refl _ _ | with_reducible assumption | ((with_reducible refine Below.alloc ?_ ?_ _); rotate_left; (first | exact Nat.le_refl _ | (simp; done) | (simp; omega) | omega)) | ((with_reducible refine Below.setCell ?_ ?_ _); rotate_left; (first | exact Nat.le_refl _ | (simp; done) | (simp; omega) | omega)) | (with_reducible refine Below.drew ?_) | (with_reducible refine bdrewN ?_ _)))).trans (hx2.below (by simp; omega) (fun k hk => by have h2 : some wr.heap.size = some k := hk; injection h2 with h2; omega))
      case measure => exact (by first | (simp [intOf]; done) | (simp [intOf]; omega))
    · obtain rfl : j = 8 := by omega
      match l, hl, hlo, ho with
      | c :: l, hl, hlo, ho =>
        have e := unhide hlo
        rw [loB] at e
        injection e with e1 e2
        obtain ⟨g, cap, hv, hg⟩ : ∃ g cap, u3 = .slice (some ⟨g, 0, none⟩) 8 cap ∧ w.heap.size ≤ g := by
          rcases ho.2 with ⟨_, h0⟩ | ⟨g, cap, cur, e, hg, _⟩
          · simp at h0
          · exact ⟨g, cap, by rw [e, hl], hg⟩
        subst hv
        have ho' : wr.ownsRow w.heap.size 5 1 (.slice (some ⟨g, 0, none⟩) 8 cap) 8 (bvs (c :: l)) := by
          have := ho
          unfold OwnB at this
          rw [hl] at this
          exact this
        have hfr := World.ownsRow.frozenAt ho' 0
        obtain ⟨b, o, hA, hblt, hcell⟩ := ho.sl.at_ (by omega)
        injection hA with hA
        injection hA with hA1 hA2
        subst hA1 hA2
        have h0 := hcell 0 (bv c) rfl
        simp only [bv, Nat.add_zero] at h0
        obtain ⟨h2, h3⟩ := World.ownsRow.stored ho' 0 (.int .u8 (((c.toNat : Int) + 128) % 256))
        have h4 : OwnB (wr.setCell ⟨g, 0, none⟩ (.int .u8 (((c.toNat : Int) + 128) % 256))) w.heap.size (.slice (some ⟨g, 0, none⟩) 8 cap) (UInt8.ofNat ((c.toNat + 128) % 256) :: l) := by
          unfold OwnB
          rw [List.length_cons, show l.length + 1 = 8 from hl]
          rw [byte_xor' c] at h2 ⊢
          exact h2
        have hx := byte_xor c
        have hs4 := h4.sl
        have hbb := hb.setCell (p := ⟨g, 0, none⟩) hg (.int .u8 (((c.toNat : Int) + 128) % 256))
        have hcap := ho.sl.nc
        have hcm := ho.sl.cm
        have hfin : (c.toNat + 128) % 256 = (u / 256 ^ 7 % 256 + 128) % 256 := by rw [e1, UInt8.toNat_ofNat']; omega
        have HF := hide hfin
        have HE := hide e2
        clear h2 h3 h4 ho ho' hl e1 e2 hfin hlo hcell
        go_wp2_with ((refine wpList_sl_string rfl 25 9 5 (.tmp 24) rfl Tryd.underlying25 Tryd.underlying5 Tryd.underlying9 rfl (hs4) ?_))
        go_ret
        refine ⟨?_, hbb⟩
        rw [unhide HA, unhide HF, unhide HE]
        rfl
end Go.Proofs.YtclhnfalebiieaaDoor
