/-
  Layer 3's Right, the program's and the reference's: both say which values are right. Condition of the program's: the two tables of unicode/utf8 lie as their text lays them.
-/
import Derived.Test.YtelckbphbkebkaaGreatDoorSpec
import Derived.Test.YtelckbphbkebkaaGreatDoorProg
set_option linter.unusedVariables false
set_option linter.unusedSimpArgs false
namespace Go.Proofs.YtelckbphbkebkaaGreatDoor
open Go.RowKit

theorem byteAt {l : List UInt8} {k : Nat} {c : UInt8} (hc : l[k]? = some c) : ∀ h : k < (⟨l.toArray⟩ : ByteArray).size, (⟨l.toArray⟩ : ByteArray)[k]'h = c := by
  intro h
  have hk : k < l.length := h
  rw [List.getElem?_eq_getElem hk] at hc
  injection hc

set_option maxRecDepth 100000 in
set_option maxHeartbeats 8000000 in
theorem utf_any (l : List UInt8) (w : World) (hl : l.length ≤ 9223372036854775807) : Calls Tryz.prog 130 #[.string ⟨l.toArray⟩] w fun e w' => e = .returned (.bool (Lib.validD l)) ∧ w = w' := by
  obtain ⟨ANS, hA⟩ : ∃ b, Lib.validD l = b := ⟨_, rfl⟩
  rw [hA]
  have HA := hide hA
  clear hA
  go_enter Tryz.func130, Tryz.ntmps130
  go_wp2_with fail
  go_loop [3] (fun i => ∃ k : Nat, k ≤ l.length ∧ i = .int .i64 k ∧ Hid (Lib.validD (l.drop k) = ANS)) (fun i => l.length - (intOf i).toNat)
  case atStart => exact ⟨0, by omega, rfl, HA⟩
  case round =>
    obtain ⟨k, hk, rfl, hv⟩ := hrel
    by_cases hlt : k < l.length
    · obtain ⟨c, hc⟩ : ∃ c, l[k]? = some c := ⟨l[k], by simp⟩
      have hbyte := byteAt hc
      have hd : l.drop k = c :: l.drop (k + 1) := by
        rw [List.drop_eq_getElem_cons hlt]
        congr 1
        rw [List.getElem?_eq_getElem hlt] at hc; injection hc
      have htl : (l.drop (k + 1)).length + (k + 1) = l.length := by rw [List.length_drop]; omega
      rw [hd] at hv
      have HT := hide htl
      clear hc hd htl HA
      have hlt' : (k : Int) < (l.length : Int) := by omega
      have hcl := c.toNat_lt
      have b0 : (0 : Int) ≤ (c.toNat : Int) := by omega
      have b1 : (c.toNat : Int) < 256 := by omega
      by_cases h1 : c.toNat < 128
      · have g1 : (c.toNat : Int) < 128 := by omega
        go_wp2_with fail
        go_loop [7, 8] (fun x m => x = .int .i64 (c.toNat : Int) ∧ m = .int .i64 1) (fun _ m => 1 - (intOf m).toNat)
        case atStart => exact ⟨rfl, rfl⟩
        case round =>
          obtain ⟨rfl, rfl⟩ := hrel
          go_wp2_with fail
          go_round
          case rel => exact ⟨k + 1, by omega, by go_num, by
            have := unhide hv
            rw [Lib.validD_cons c _ h1] at this
            exact this⟩
          case measure => exact (by first | (simp [intOf]; done) | (simp [intOf]; omega))
      by_cases h2 : 248 ≤ c.toNat
      · have g1 : (248 : Int) ≤ (c.toNat : Int) := by omega
        go_wp2_with fail
        go_ret
        exact ⟨by rw [← unhide hv, utf_wrong _ (by omega)]; rfl, rfl⟩
      by_cases h3 : c.toNat < 192
      · have g1 : (c.toNat : Int) < 192 := by omega
        have g2 : (128 : Int) ≤ (c.toNat : Int) := by omega
        go_wp2_with fail
        go_ret
        exact ⟨by rw [← unhide hv, utf_wrong _ (by omega)]; rfl, rfl⟩
      by_cases h41 : c.toNat < 224
      · have g1 : (192 : Int) ≤ (c.toNat : Int) := by omega
        have g2 : (c.toNat : Int) < 224 := by omega
        have hL : Hid (Lead c 1 128 ((c.toNat : Int) - 192)) := hide ⟨by omega⟩
        by_cases h5 : (l.drop (k + 1)).length < 1
        · have g3 : (l.length : Int) - 1 - (k : Int) < 1 := by have := unhide HT; omega
          go_wp2_with fail
          go_ret
          exact ⟨by rw [← unhide hv, utf_short (unhide hL) h5]; rfl, rfl⟩
        · have g3 : (1 : Int) ≤ (l.length : Int) - 1 - (k : Int) := by have := unhide HT; omega
          obtain ⟨S, hS⟩ : ∃ S : Nat → Int, S = spell ((c.toNat : Int) - 192) (l.drop (k + 1)) := ⟨_, rfl⟩
          have HS := hide hS
          have s0 : S 0 = (c.toNat : Int) - 192 := by rw [hS, spell_zero]
          have HS0 := hide s0
          have hSb : ∀ j, j ≤ 1 → Hid (∀ i d, i < j → (l.drop (k + 1))[i]? = some d → cont d) → 0 ≤ S j ∧ S j < 4294967296 := by
            intro j hj hall
            rw [hS]
            exact spell_bound (by omega) (by omega) _ j (by omega) (unhide hall)
          clear hS s0
          go_wp2_with fail
          go_loop [7, 8] (fun x m => ∃ j : Nat, j ≤ 1 ∧ m = .int .i64 ((j : Int) + 1) ∧ x = .int .i64 (S j) ∧ Hid (∀ i d, i < j → (l.drop (k + 1))[i]? = some d → cont d)) (fun _ m => 1 + 1 - (intOf m).toNat)
          case atStart => exact ⟨0, by omega, rfl, by rw [unhide HS0], hide (fun i d h => absurd h (by omega))⟩
          case round =>
            obtain ⟨j, hj, rfl, rfl, hall⟩ := hrel
            have hb := hSb j hj hall
            obtain ⟨sb0, sb1⟩ := hb
            by_cases hjn : j < 1
            · have hjn' : (j : Int) + 1 ≤ 1 := by omega
              obtain ⟨d, hd⟩ : ∃ d, (l.drop (k + 1))[j]? = some d := ⟨(l.drop (k + 1))[j]'(by omega), by simp⟩
              have hdb : ∀ h : (k + (j + 1)) < (⟨l.toArray⟩ : ByteArray).size, (⟨l.toArray⟩ : ByteArray)[k + (j + 1)]'h = d := byteAt (by rw [List.getElem?_drop] at hd; rw [← hd]; congr 1; omega)
              have HDD := hide hd
              have hdl := d.toNat_lt
              have d0 : (0 : Int) ≤ (d.toNat : Int) := by omega
              have d1 : (d.toNat : Int) < 256 := by omega
              have d2 : (k : Int) + ((j : Int) + 1) < l.length := by omega
              clear hd
              by_cases hcn : cont d
              · unfold cont at hcn
                obtain ⟨c1, c2⟩ := hcn
                have c1' : (128 : Int) ≤ (d.toNat : Int) := by omega
                have c2' : (d.toNat : Int) ≤ 191 := by omega
                have hsx : S (j + 1) = 64 * S j + (d.toNat : Int) - 128 := by rw [unhide HS, spell_succ _ _ _ _ (unhide HDD)]
                have HSX := hide hsx
                clear hsx
                go_wp2_with fail
                go_round
                case rel => exact ⟨j + 1, by omega, by go_num, by rw [unhide HSX], hide (fun i e hi he => by
                  by_cases hij : i = j
                  · subst hij
                    rw [unhide HDD] at he
                    injection he with he
                    subst he
                    exact ⟨by omega, by omega⟩
                  · exact unhide hall i e (by omega) he)⟩
                case measure => exact (by first | (simp [intOf]; done) | (simp [intOf]; omega))
              · have hstray := utf_stray (unhide hL) hjn (unhide HDD) hcn
                have hend : ANS = false := by rw [← unhide hv, hstray]
                subst hend
                clear hstray hv
                by_cases hd1 : d.toNat < 128
                · have c1' : (d.toNat : Int) < 128 := by omega
                  go_wp2_with fail
                  go_ret
                  exact ⟨rfl, rfl⟩
                · have c0' : (128 : Int) ≤ (d.toNat : Int) := by omega
                  have c1' : (191 : Int) < (d.toNat : Int) := by unfold cont at hcn; omega
                  go_wp2_with fail
                  go_ret
                  exact ⟨rfl, rfl⟩
            · obtain rfl : j = 1 := by omega
              have hstep := utf_step (unhide hL) (by omega) (unhide hall)
              rw [← unhide HS, unhide hv] at hstep
              have hrest : 1 + (k + 1) ≤ l.length := by have := unhide HT; omega
              have HR := hide hstep
              clear hstep hall hv
              generalize hy : S 1 = y at HR sb0 sb1 ⊢
              clear hy HS HS0 hSb
              by_cases e1 : y < 128
              · have hend : ANS = false := by have := unhide HR; rw [if_pos (.inl e1)] at this; exact this
                subst hend
                go_wp2_with fail
                go_ret
                exact ⟨rfl, rfl⟩
              by_cases e2 : 1114111 < y
              · have hend : ANS = false := by have := unhide HR; rw [if_pos (.inr (.inl e2))] at this; exact this
                subst hend
                have e1' : (128 : Int) ≤ y := by omega
                go_wp2_with fail
                go_ret
                exact ⟨rfl, rfl⟩
              by_cases e3 : 55296 ≤ y ∧ y < 57344
              · have hend : ANS = false := by have := unhide HR; rw [if_pos (.inr (.inr e3))] at this; exact this
                subst hend
                have e1' : (128 : Int) ≤ y := by omega
                have e2' : y ≤ (1114111 : Int) := by omega
                obtain ⟨e3, e4⟩ := e3
                go_wp2_with fail
                go_ret
                exact ⟨rfl, rfl⟩
              have hgo : Hid (Lib.validD (l.drop (k + (1 + 1))) = ANS) := by
                have := unhide HR
                rw [if_neg (by unfold badRune; omega), List.drop_drop] at this
                rw [this]
                congr 2 <;> omega
              clear HR
              have e1' : (128 : Int) ≤ y := by omega
              have e2' : y ≤ (1114111 : Int) := by omega
              by_cases e4 : 55296 ≤ y
              · have e5 : (57344 : Int) ≤ y := by omega
                clear e3
                go_wp2_with fail
                go_round
                case rel => exact ⟨k + (1 + 1), by omega, by go_num, hgo⟩
                case measure => exact (by first | (simp [intOf]; done) | (simp [intOf]; omega))
              · have e5 : y < 55296 := by omega
                clear e3 e4
                go_wp2_with fail
                go_round
                case rel => exact ⟨k + (1 + 1), by omega, by go_num, hgo⟩
                case measure => exact (by first | (simp [intOf]; done) | (simp [intOf]; omega))
      by_cases h42 : c.toNat < 240
      · have g1 : (224 : Int) ≤ (c.toNat : Int) := by omega
        have g2 : (c.toNat : Int) < 240 := by omega
        have hL : Hid (Lead c 2 2048 ((c.toNat : Int) - 224)) := hide ⟨by omega⟩
        by_cases h5 : (l.drop (k + 1)).length < 2
        · have g3 : (l.length : Int) - 1 - (k : Int) < 2 := by have := unhide HT; omega
          go_wp2_with fail
          go_ret
          exact ⟨by rw [← unhide hv, utf_short (unhide hL) h5]; rfl, rfl⟩
        · have g3 : (2 : Int) ≤ (l.length : Int) - 1 - (k : Int) := by have := unhide HT; omega
          obtain ⟨S, hS⟩ : ∃ S : Nat → Int, S = spell ((c.toNat : Int) - 224) (l.drop (k + 1)) := ⟨_, rfl⟩
          have HS := hide hS
          have s0 : S 0 = (c.toNat : Int) - 224 := by rw [hS, spell_zero]
          have HS0 := hide s0
          have hSb : ∀ j, j ≤ 2 → Hid (∀ i d, i < j → (l.drop (k + 1))[i]? = some d → cont d) → 0 ≤ S j ∧ S j < 4294967296 := by
            intro j hj hall
            rw [hS]
            exact spell_bound (by omega) (by omega) _ j (by omega) (unhide hall)
          clear hS s0
          go_wp2_with fail
          go_loop [7, 8] (fun x m => ∃ j : Nat, j ≤ 2 ∧ m = .int .i64 ((j : Int) + 1) ∧ x = .int .i64 (S j) ∧ Hid (∀ i d, i < j → (l.drop (k + 1))[i]? = some d → cont d)) (fun _ m => 2 + 1 - (intOf m).toNat)
          case atStart => exact ⟨0, by omega, rfl, by rw [unhide HS0], hide (fun i d h => absurd h (by omega))⟩
          case round =>
            obtain ⟨j, hj, rfl, rfl, hall⟩ := hrel
            have hb := hSb j hj hall
            obtain ⟨sb0, sb1⟩ := hb
            by_cases hjn : j < 2
            · have hjn' : (j : Int) + 1 ≤ 2 := by omega
              obtain ⟨d, hd⟩ : ∃ d, (l.drop (k + 1))[j]? = some d := ⟨(l.drop (k + 1))[j]'(by omega), by simp⟩
              have hdb : ∀ h : (k + (j + 1)) < (⟨l.toArray⟩ : ByteArray).size, (⟨l.toArray⟩ : ByteArray)[k + (j + 1)]'h = d := byteAt (by rw [List.getElem?_drop] at hd; rw [← hd]; congr 1; omega)
              have HDD := hide hd
              have hdl := d.toNat_lt
              have d0 : (0 : Int) ≤ (d.toNat : Int) := by omega
              have d1 : (d.toNat : Int) < 256 := by omega
              have d2 : (k : Int) + ((j : Int) + 1) < l.length := by omega
              clear hd
              by_cases hcn : cont d
              · unfold cont at hcn
                obtain ⟨c1, c2⟩ := hcn
                have c1' : (128 : Int) ≤ (d.toNat : Int) := by omega
                have c2' : (d.toNat : Int) ≤ 191 := by omega
                have hsx : S (j + 1) = 64 * S j + (d.toNat : Int) - 128 := by rw [unhide HS, spell_succ _ _ _ _ (unhide HDD)]
                have HSX := hide hsx
                clear hsx
                go_wp2_with fail
                go_round
                case rel => exact ⟨j + 1, by omega, by go_num, by rw [unhide HSX], hide (fun i e hi he => by
                  by_cases hij : i = j
                  · subst hij
                    rw [unhide HDD] at he
                    injection he with he
                    subst he
                    exact ⟨by omega, by omega⟩
                  · exact unhide hall i e (by omega) he)⟩
                case measure => exact (by first | (simp [intOf]; done) | (simp [intOf]; omega))
              · have hstray := utf_stray (unhide hL) hjn (unhide HDD) hcn
                have hend : ANS = false := by rw [← unhide hv, hstray]
                subst hend
                clear hstray hv
                by_cases hd1 : d.toNat < 128
                · have c1' : (d.toNat : Int) < 128 := by omega
                  go_wp2_with fail
                  go_ret
                  exact ⟨rfl, rfl⟩
                · have c0' : (128 : Int) ≤ (d.toNat : Int) := by omega
                  have c1' : (191 : Int) < (d.toNat : Int) := by unfold cont at hcn; omega
                  go_wp2_with fail
                  go_ret
                  exact ⟨rfl, rfl⟩
            · obtain rfl : j = 2 := by omega
              have hstep := utf_step (unhide hL) (by omega) (unhide hall)
              rw [← unhide HS, unhide hv] at hstep
              have hrest : 2 + (k + 1) ≤ l.length := by have := unhide HT; omega
              have HR := hide hstep
              clear hstep hall hv
              generalize hy : S 2 = y at HR sb0 sb1 ⊢
              clear hy HS HS0 hSb
              by_cases e1 : y < 2048
              · have hend : ANS = false := by have := unhide HR; rw [if_pos (.inl e1)] at this; exact this
                subst hend
                go_wp2_with fail
                go_ret
                exact ⟨rfl, rfl⟩
              by_cases e2 : 1114111 < y
              · have hend : ANS = false := by have := unhide HR; rw [if_pos (.inr (.inl e2))] at this; exact this
                subst hend
                have e1' : (2048 : Int) ≤ y := by omega
                go_wp2_with fail
                go_ret
                exact ⟨rfl, rfl⟩
              by_cases e3 : 55296 ≤ y ∧ y < 57344
              · have hend : ANS = false := by have := unhide HR; rw [if_pos (.inr (.inr e3))] at this; exact this
                subst hend
                have e1' : (2048 : Int) ≤ y := by omega
                have e2' : y ≤ (1114111 : Int) := by omega
                obtain ⟨e3, e4⟩ := e3
                go_wp2_with fail
                go_ret
                exact ⟨rfl, rfl⟩
              have hgo : Hid (Lib.validD (l.drop (k + (1 + 2))) = ANS) := by
                have := unhide HR
                rw [if_neg (by unfold badRune; omega), List.drop_drop] at this
                rw [this]
                congr 2 <;> omega
              clear HR
              have e1' : (2048 : Int) ≤ y := by omega
              have e2' : y ≤ (1114111 : Int) := by omega
              by_cases e4 : 55296 ≤ y
              · have e5 : (57344 : Int) ≤ y := by omega
                clear e3
                go_wp2_with fail
                go_round
                case rel => exact ⟨k + (1 + 2), by omega, by go_num, hgo⟩
                case measure => exact (by first | (simp [intOf]; done) | (simp [intOf]; omega))
              · have e5 : y < 55296 := by omega
                clear e3 e4
                go_wp2_with fail
                go_round
                case rel => exact ⟨k + (1 + 2), by omega, by go_num, hgo⟩
                case measure => exact (by first | (simp [intOf]; done) | (simp [intOf]; omega))
      have g1 : (240 : Int) ≤ (c.toNat : Int) := by omega
      have g2 : (c.toNat : Int) < 248 := by omega
      have hL : Hid (Lead c 3 65536 ((c.toNat : Int) - 240)) := hide ⟨by omega⟩
      by_cases h5 : (l.drop (k + 1)).length < 3
      · have g3 : (l.length : Int) - 1 - (k : Int) < 3 := by have := unhide HT; omega
        go_wp2_with fail
        go_ret
        exact ⟨by rw [← unhide hv, utf_short (unhide hL) h5]; rfl, rfl⟩
      · have g3 : (3 : Int) ≤ (l.length : Int) - 1 - (k : Int) := by have := unhide HT; omega
        obtain ⟨S, hS⟩ : ∃ S : Nat → Int, S = spell ((c.toNat : Int) - 240) (l.drop (k + 1)) := ⟨_, rfl⟩
        have HS := hide hS
        have s0 : S 0 = (c.toNat : Int) - 240 := by rw [hS, spell_zero]
        have HS0 := hide s0
        have hSb : ∀ j, j ≤ 3 → Hid (∀ i d, i < j → (l.drop (k + 1))[i]? = some d → cont d) → 0 ≤ S j ∧ S j < 4294967296 := by
          intro j hj hall
          rw [hS]
          exact spell_bound (by omega) (by omega) _ j (by omega) (unhide hall)
        clear hS s0
        go_wp2_with fail
        go_loop [7, 8] (fun x m => ∃ j : Nat, j ≤ 3 ∧ m = .int .i64 ((j : Int) + 1) ∧ x = .int .i64 (S j) ∧ Hid (∀ i d, i < j → (l.drop (k + 1))[i]? = some d → cont d)) (fun _ m => 3 + 1 - (intOf m).toNat)
        case atStart => exact ⟨0, by omega, rfl, by rw [unhide HS0], hide (fun i d h => absurd h (by omega))⟩
        case round =>
          obtain ⟨j, hj, rfl, rfl, hall⟩ := hrel
          have hb := hSb j hj hall
          obtain ⟨sb0, sb1⟩ := hb
          by_cases hjn : j < 3
          · have hjn' : (j : Int) + 1 ≤ 3 := by omega
            obtain ⟨d, hd⟩ : ∃ d, (l.drop (k + 1))[j]? = some d := ⟨(l.drop (k + 1))[j]'(by omega), by simp⟩
            have hdb : ∀ h : (k + (j + 1)) < (⟨l.toArray⟩ : ByteArray).size, (⟨l.toArray⟩ : ByteArray)[k + (j + 1)]'h = d := byteAt (by rw [List.getElem?_drop] at hd; rw [← hd]; congr 1; omega)
            have HDD := hide hd
            have hdl := d.toNat_lt
            have d0 : (0 : Int) ≤ (d.toNat : Int) := by omega
            have d1 : (d.toNat : Int) < 256 := by omega
            have d2 : (k : Int) + ((j : Int) + 1) < l.length := by omega
            clear hd
            by_cases hcn : cont d
            · unfold cont at hcn
              obtain ⟨c1, c2⟩ := hcn
              have c1' : (128 : Int) ≤ (d.toNat : Int) := by omega
              have c2' : (d.toNat : Int) ≤ 191 := by omega
              have hsx : S (j + 1) = 64 * S j + (d.toNat : Int) - 128 := by rw [unhide HS, spell_succ _ _ _ _ (unhide HDD)]
              have HSX := hide hsx
              clear hsx
              go_wp2_with fail
              go_round
              case rel => exact ⟨j + 1, by omega, by go_num, by rw [unhide HSX], hide (fun i e hi he => by
                by_cases hij : i = j
                · subst hij
                  rw [unhide HDD] at he
                  injection he with he
                  subst he
                  exact ⟨by omega, by omega⟩
                · exact unhide hall i e (by omega) he)⟩
              case measure => exact (by first | (simp [intOf]; done) | (simp [intOf]; omega))
            · have hstray := utf_stray (unhide hL) hjn (unhide HDD) hcn
              have hend : ANS = false := by rw [← unhide hv, hstray]
              subst hend
              clear hstray hv
              by_cases hd1 : d.toNat < 128
              · have c1' : (d.toNat : Int) < 128 := by omega
                go_wp2_with fail
                go_ret
                exact ⟨rfl, rfl⟩
              · have c0' : (128 : Int) ≤ (d.toNat : Int) := by omega
                have c1' : (191 : Int) < (d.toNat : Int) := by unfold cont at hcn; omega
                go_wp2_with fail
                go_ret
                exact ⟨rfl, rfl⟩
          · obtain rfl : j = 3 := by omega
            have hstep := utf_step (unhide hL) (by omega) (unhide hall)
            rw [← unhide HS, unhide hv] at hstep
            have hrest : 3 + (k + 1) ≤ l.length := by have := unhide HT; omega
            have HR := hide hstep
            clear hstep hall hv
            generalize hy : S 3 = y at HR sb0 sb1 ⊢
            clear hy HS HS0 hSb
            by_cases e1 : y < 65536
            · have hend : ANS = false := by have := unhide HR; rw [if_pos (.inl e1)] at this; exact this
              subst hend
              go_wp2_with fail
              go_ret
              exact ⟨rfl, rfl⟩
            by_cases e2 : 1114111 < y
            · have hend : ANS = false := by have := unhide HR; rw [if_pos (.inr (.inl e2))] at this; exact this
              subst hend
              have e1' : (65536 : Int) ≤ y := by omega
              go_wp2_with fail
              go_ret
              exact ⟨rfl, rfl⟩
            by_cases e3 : 55296 ≤ y ∧ y < 57344
            · have hend : ANS = false := by have := unhide HR; rw [if_pos (.inr (.inr e3))] at this; exact this
              subst hend
              have e1' : (65536 : Int) ≤ y := by omega
              have e2' : y ≤ (1114111 : Int) := by omega
              obtain ⟨e3, e4⟩ := e3
              go_wp2_with fail
              go_ret
              exact ⟨rfl, rfl⟩
            have hgo : Hid (Lib.validD (l.drop (k + (1 + 3))) = ANS) := by
              have := unhide HR
              rw [if_neg (by unfold badRune; omega), List.drop_drop] at this
              rw [this]
              congr 2 <;> omega
            clear HR
            have e1' : (65536 : Int) ≤ y := by omega
            have e2' : y ≤ (1114111 : Int) := by omega
            by_cases e4 : 55296 ≤ y
            · have e5 : (57344 : Int) ≤ y := by omega
              clear e3
              go_wp2_with fail
              go_round
              case rel => exact ⟨k + (1 + 3), by omega, by go_num, hgo⟩
              case measure => exact (by first | (simp [intOf]; done) | (simp [intOf]; omega))
            · exfalso; omega
    · have hlt' : (l.length : Int) ≤ (k : Int) := by omega
      have hk' : k = l.length := by omega
      subst hk'
      have : Lib.validD (l.drop l.length) = true := by rw [List.drop_length]; rfl
      have hend : ANS = true := by rw [← unhide hv, this]
      subst hend
      clear this hv
      go_wp2_with fail
      go_ret
      exact ⟨rfl, rfl⟩

end Go.Proofs.YtelckbphbkebkaaGreatDoor
