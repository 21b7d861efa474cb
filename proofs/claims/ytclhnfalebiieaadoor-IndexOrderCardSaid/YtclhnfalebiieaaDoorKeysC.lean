/-
  Layer 5: reading: a clone, eight bytes, a text with its end, one value, many.
-/
import Derived.Test.YtclhnfalebiieaaDoorKeysB
set_option linter.unusedVariables false
set_option linter.unusedSimpArgs false
namespace Go.Proofs.YtclhnfalebiieaaDoor
open Go.RowKit

theorem bvs_drop (l : List UInt8) (k : Nat) : bvs (l.drop k) = (bvs l).drop k := by simp [bvs]
theorem Sl.none_len {w : World} {size n c : Nat} {xs : List Value} (h : Sl w size none n c xs) : n = 0 := by
  rcases Nat.eq_zero_or_pos n with h0 | h0
  · exact h0
  · obtain ⟨_, _, e, _⟩ := h.at_ h0
    cases e

set_option maxHeartbeats 400000 in
theorem clone_any (w : World) (A : Option Addr) (n c : Nat) (l : List UInt8) (hs : Sl w 1 A n c (bvs l)) (hn : n ≤ 100000000000) :
    Calls Tryd.prog 35 #[.slice A n c] w (NewBytes w l) := by
  have hlen := hs.blen
  rcases A with _ | ad
  · have hn0 := hs.none_len
    subst hn0
    have : l = [] := List.eq_nil_of_length_eq_zero hlen
    subst this
    have hnil := @Lib.run_eql_slice_nil Tryd.prog
    go_enter Tryd.func35, Tryd.ntmps35
    go_wp2_with fail
    go_ret
    exact ⟨none, 0, rfl, OwnB.nil _ _, Sl.zero _ _ _ _ (by simp [maxLen]), Below.refl _ _⟩
  · have hnil := @Lib.run_eql_slice_nil Tryd.prog
    go_enter Tryd.func35, Tryd.ntmps35
    go_wp2_with (refine app_bytes rfl (.tmp 5) (.tmp 6) rfl rfl (B := w.heap.size) (l := []) ?_ rfl (hs.alloc _) ?_ ?_ ?_; (· exact World.ownsRow_lit (base := w.heap.size) (e := 5) (size := 1) w #[] 0 (Nat.le_refl _) (by simp [maxLen]) rfl); (· simp; omega); (· simp); intro v2 w2 ho2 hx2)
    go_ret
    obtain ⟨A', c', hv, hs'⟩ := ho2.form
    subst hv
    simp only [List.nil_append] at ho2 hs'
    exact ⟨A', c', rfl, ho2, hs', Below.trans ((Below.refl _ _).alloc (Nat.le_refl _) _) (hx2.below (by simp) (fun k hk => by have h2 : some w.heap.size = some k := hk; injection h2 with h2; omega))⟩

def deTo (l : List UInt8) (k : Nat) : Nat := (l.take k).foldl (fun u c => u * 256 + c.toNat) 0
theorem deTo_succ {l : List UInt8} {k : Nat} {x : UInt8} (h : l[k]? = some x) : deTo l (k + 1) = deTo l k * 256 + x.toNat := by
  have hk : k < l.length := by
    rcases Nat.lt_or_ge k l.length with h' | h'
    · exact h'
    · rw [List.getElem?_eq_none h'] at h; cases h
  have hd : l[k] = x := by rw [List.getElem?_eq_getElem hk] at h; injection h
  unfold deTo
  rw [List.take_succ_eq_append_getElem hk, List.foldl_append, hd]
  rfl
theorem deTo_lt (l : List UInt8) : ∀ k, deTo l k < 256 ^ k := by
  intro k
  induction k with
  | zero => simp [deTo]
  | succ k ih =>
    rcases hx : l[k]? with _ | x
    · have hl := List.getElem?_eq_none_iff.1 hx
      have : deTo l (k + 1) = deTo l k := by unfold deTo; rw [List.take_of_length_le (by omega), List.take_of_length_le hl]
      rw [this, Nat.pow_succ]
      omega
    · rw [deTo_succ hx, Nat.pow_succ]
      have := x.toNat_lt
      omega
theorem or_u64 (U x : Nat) (h : U ≤ 72057594037927935) (hx : x < 256) : bits BinOp.or IntKind.u64 ((U : Int) * 256) (x : Int) = ((U * 256 + x : Nat) : Int) := by
  have h1 : (BitVec.ofInt 64 ((U : Int) * 256)).toNat = 2 ^ 8 * U := by
    rw [show (U : Int) * 256 = ((2 ^ 8 * U : Nat) : Int) by omega, BitVec.ofInt_natCast, BitVec.toNat_ofNat]; exact Nat.mod_eq_of_lt (by omega)
  have h2 : (BitVec.ofInt 64 (x : Int)).toNat = x := by rw [BitVec.ofInt_natCast, BitVec.toNat_ofNat]; exact Nat.mod_eq_of_lt (by omega)
  have e : bits BinOp.or IntKind.u64 ((U : Int) * 256) (x : Int) = IntKind.u64.wrap ((BitVec.ofInt 64 ((U : Int) * 256) ||| BitVec.ofInt 64 (x : Int)).toNat : Int) := rfl
  rw [e, BitVec.toNat_or, h1, h2, ← Nat.two_pow_add_eq_or_of_lt (by omega), IntKind.wrap_u64]
  omega
theorem back_i64 (U : Nat) (h : U < 18446744073709551616) : RowKit.wrap64 (bits BinOp.xor IntKind.u64 (U : Int) 9223372036854775808) = (U : Int) - 9223372036854775808 := by
  have h1 := xor_u64_top (U : Int)
  have h2 : IntKind.u64.wrap (U : Int) = U := by rw [IntKind.wrap_u64]; omega
  rw [h2] at h1
  rw [h1]
  unfold flipN RowKit.wrap64
  omega
theorem bdrewN {B : Nat} {a w : World} (h : Below B a w) (n : Nat) : Below B a (w.drewN n) := h.trans ⟨rfl, rfl, rfl, Nat.le_refl _, fun _ _ => rfl⟩


set_option maxHeartbeats 400000 in
theorem eight_any (u w : World) (A : Option Addr) (n c : Nat) (l : List UInt8) (hsu : Sl u 1 A n c (bvs l)) (hu : Below u.heap.size u w) (hn : 8 ≤ n) :
    Calls Tryd.prog 50 #[.slice A n c] w fun e w' => ∃ A' c', e = .returned (.tuple #[.int .i64 ((deTo l 8 : Int) - 9223372036854775808), .slice A' (n - 8) c', .bool true]) ∧ Sl u 1 A' (n - 8) c' (bvs (l.drop 8)) ∧ Below w.heap.size w w' := by
  have hs := hsu.mono hu
  have hn' : (8 : Int) ≤ (n : Int) := by omega
  have hc := hs.nc
  have hm := hs.cm
  unfold maxLen at hm
  have Hs := hide hs
  have Hu := hide hsu
  clear hs hsu hu
  go_enter Tryd.func50, Tryd.ntmps50
  go_wp2_with fail
  go_loop [5, 14] (fun u i => ∃ k : Nat, k ≤ 8 ∧ i = .int .i64 (k : Int) ∧ u = .int .u64 (deTo l k : Nat)) (fun _ i => 8 - (intOf i).toNat)
  case atStart => exact ⟨0, by omega, rfl, rfl⟩
  case round =>
    obtain ⟨k, hk, rfl, rfl⟩ := hrel
    by_cases hlt : k < 8
    · obtain ⟨b, o, x, hA, hblt, hx, hcell⟩ := (unhide Hs).byte (show k < n by omega)
      subst hA
      have hlt' : (k : Int) < 8 := by omega
      have hs1 := deTo_succ hx
      have hlt7 : deTo l k ≤ 72057594037927935 := by
        have h1 := deTo_lt l k
        have h2 : 256 ^ k ≤ 256 ^ 7 := Nat.pow_le_pow_right (by omega) (by omega)
        simp only [Nat.reducePow] at h2
        omega
      have HS := hide hs1
      clear hs1
      generalize deTo l k = U at HS hlt7 ⊢
      have hor := or_u64 U x.toNat hlt7 x.toNat_lt
      have u0 : (0 : Int) ≤ (U : Int) * 256 := by omega
      have u1 : (U : Int) * 256 ≤ 18446744073709551615 := by omega
      have b0 : (0 : Int) ≤ (x.toNat : Int) := by omega
      have b1 : (x.toNat : Int) < 256 := by have := x.toNat_lt; omega
      clear hx hlt7
      go_wp2_with fail
      exact ⟨⟨k + 1, by omega, by go_num, by rw [unhide HS]; go_num⟩, by simp [intOf]; omega⟩
    · obtain rfl : k = 8 := by omega
      have hlt8 := deTo_lt l 8
      have hback := back_i64 (deTo l 8) (by simpa using hlt8)
      have HB := hide hback
      clear hback hlt8
      go_wp2_with fail
      go_quiet (fail)
      go_wp2_with fail
      all_goals
        refine bodyPost_ret (results_tmp3 rfl _ _ _) rfl ⟨_, _, by rw [← unhide HB]; rfl, ?_, bdrewN (Below.refl _ _) _⟩
        have hcut := (unhide Hu).cut hn
        simp only [Nat.mul_one] at hcut
      · subst h
        rw [bvs_drop]
        simpa using hcut
      · rw [if_neg h] at hcut
        rw [bvs_drop]
        simpa [Addr.add] using hcut

set_option maxHeartbeats 400000 in
theorem eight_short (w : World) (A : Option Addr) (n c : Nat) (hn : n < 8) :
    Calls Tryd.prog 50 #[.slice A n c] w fun e w' => e = .returned (.tuple #[.int .i64 0, .slice none 0 0, .bool false]) ∧ w = w' := by
  have hn' : (n : Int) < 8 := by omega
  go_enter Tryd.func50, Tryd.ntmps50
  go_wp2_with fail
  refine bodyPost_ret (results_tmp3 rfl _ _ _) rfl ⟨rfl, rfl⟩

/-! ## a text with its end, read -/
def untext : List UInt8 → Option (List UInt8 × List UInt8)
  | [] => none
  | [_] => none
  | c :: d :: t => if c = 0 then (if d = 255 then (untext t).map (fun p => (0 :: p.1, p.2)) else if d = 1 then some ([], t) else none)
      else (untext (d :: t)).map (fun p => (c :: p.1, p.2))
theorem untext_ne {c : UInt8} (t : List UInt8) (h : c ≠ 0) : untext (c :: t) = (untext t).map (fun p => (c :: p.1, p.2)) := by
  cases t with
  | nil => simp [untext]
  | cons d t => rw [untext, if_neg h]
theorem untext_end : untext [0] = none := by simp [untext]
theorem untext_esc (t : List UInt8) : untext (0 :: 255 :: t) = (untext t).map (fun p => (0 :: p.1, p.2)) := by rw [untext, if_pos rfl, if_pos rfl]
theorem untext_one (t : List UInt8) : untext (0 :: 1 :: t) = some ([], t) := by rw [untext, if_pos rfl, if_neg (by decide), if_pos rfl]
theorem untext_bad {d : UInt8} (t : List UInt8) (h1 : d ≠ 255) (h2 : d ≠ 1) : untext (0 :: d :: t) = none := by rw [untext, if_pos rfl, if_neg h1, if_neg h2]
def Untexted (u w : World) (r : Option (List UInt8 × List UInt8)) : Ending → World → Prop := fun e w' => Below w.heap.size w w' ∧ match r with
  | none => e = .returned (.tuple #[.string ⟨#[]⟩, .slice none 0 0, .bool false])
  | some (t, rest) => ∃ A c, e = .returned (.tuple #[.string ⟨t.toArray⟩, .slice A rest.length c, .bool true]) ∧ Sl u 1 A rest.length c (bvs rest)
theorem drop_cons {l : List UInt8} {k : Nat} {x : UInt8} (h : l[k]? = some x) : l.drop k = x :: l.drop (k + 1) := by
  have hk : k < l.length := by
    rcases Nat.lt_or_ge k l.length with h' | h'
    · exact h'
    · rw [List.getElem?_eq_none h'] at h; cases h
  rw [List.drop_eq_getElem_cons hk]
  congr 1
  rw [List.getElem?_eq_getElem hk] at h; injection h
theorem beq_u8 {x : UInt8} {n : Nat} (hn : n < 256) (h : x ≠ UInt8.ofNat n) : ((x.toNat : Int) == (n : Int)) = false := by
  rw [beq_eq_false_iff_ne]
  intro e
  apply h
  apply UInt8.toNat_inj.1
  rw [UInt8.toNat_ofNat']
  omega

set_option maxHeartbeats 1000000 in
theorem untext_any (u w : World) (A : Option Addr) (n c : Nat) (l : List UInt8) (hsu : Sl u 1 A n c (bvs l)) (hu : Below u.heap.size u w) (hn : n ≤ 100000000000) :
    Calls Tryd.prog 51 #[.slice A n c] w (Untexted u w (untext l)) := by
  have hs := hsu.mono hu
  have Hu := hide hsu
  clear hsu hu
  obtain ⟨ANS, hA⟩ : ∃ r, untext l = r := ⟨_, rfl⟩
  rw [hA]
  have hlen := hs.blen
  have HA := hide hA
  clear hA
  have hnc := hs.nc
  go_enter Tryd.func51, Tryd.ntmps51
  go_wp2_with fail
  go_loopw [5, 6] (fun v i wr => ∃ (k : Nat) (o : List UInt8), k ≤ n ∧ i = .int .i64 (k : Int) ∧ o.length ≤ k ∧ OwnB wr w.heap.size v o ∧ Below w.heap.size w wr ∧ Hid ((untext (l.drop k)).map (fun p => (o ++ p.1, p.2)) = ANS)) (fun _ i _ => n - (intOf i).toNat)
  case atStart => exact ⟨0, [], by omega, rfl, by simp, OwnB.nil _ _, Below.refl _ _, hide (by rw [← unhide HA]; simp)⟩
  case round =>
    obtain ⟨k, o, hk, rfl, hol, ho, hb, hv⟩ := hrel
    clear HA
    have hbs := hb.size
    by_cases hlt : k < n
    · have hsr := hs.below hb (Nat.le_refl _)
      obtain ⟨b, off, x, hA, hblt, hx, hcell⟩ := hsr.byte hlt
      subst hA
      have hlt' : (k : Int) < (n : Int) := by omega
      have hd := drop_cons hx
      rw [hd] at hv
      have b0 : (0 : Int) ≤ (x.toNat : Int) := by omega
      have b1 : (x.toNat : Int) < 256 := by have := x.toNat_lt; omega
      clear hd hx
      by_cases hx0 : x = 0
      · have hz : (x.toNat : Int) = 0 := by rw [hx0]; rfl
        subst hx0
        rw [hz] at hcell
        clear hz b0 b1
        by_cases hlt2 : k + 1 < n
        · obtain ⟨b2, off2, y, hA, _, hy, hcell2⟩ := hsr.byte hlt2
          injection hA with hA
          injection hA with hA1 hA2
          subst hA1
          subst hA2
          have hd := drop_cons hy
          rw [hd] at hv
          have hlt2' : (k : Int) + 1 < (n : Int) := by omega
          have c0 : (0 : Int) ≤ (y.toNat : Int) := by omega
          have c1 : (y.toNat : Int) < 256 := by have := y.toNat_lt; omega
          clear hd hy hsr
          by_cases h255 : y = 255
          · subst h255
            have hc2 : wr.cell? ⟨b, off + (k + 1), none⟩ = some (.int .u8 255) := hcell2
            clear c0 c1 hcell2
            go_wp2_with (refine app_bytes rfl (.tmp 39) (.tmp 40) rfl rfl (ho.alloc _) rfl (Sl.new1 _ _ _ 0 rfl) ?_ ?_ ?_; (· simp; omega); (· simp; omega); intro v2 w2 ho2 hx2)
            go_roundw
            case rel => exact ⟨k + 2, o ++ [0], by omega, by go_num, by simp; omega, ho2, hb.trans (Below.trans ((Below.refl _ _).alloc (by omega) _) (hx2.below (by simp; omega) (own_lies ho))), hide (by
              have := unhide hv
              rw [untext_esc] at this
              rw [← this]
              simp [Option.map_map, Function.comp_def])⟩
            case measure => exact (by first | (simp [intOf]; done) | (simp [intOf]; omega))
          by_cases h1 : y = 1
          · subst h1
            have hc2 : wr.cell? ⟨b, off + (k + 1), none⟩ = some (.int .u8 1) := hcell2
            clear c0 c1 hcell2 h255
            obtain ⟨A', c', hvv, hs'⟩ := ho.form
            subst hvv
            have hconv : ∀ q, (convert 25 9 (.slice A' o.length c')).run Tryd.prog (wr.drewN q) = .ok (.string ⟨o.toArray⟩) (wr.drewN q) := fun q =>
              run_sl_string _ _ _ _ Tryd.underlying25 Tryd.underlying5 Tryd.underlying9 A' _ c' o (hs'.drewN q)
            go_wp2_with fail
            have hk2 : (k : Int) + 1 + 1 ≤ (n : Int) := by omega
            have hcn : (n : Int) ≤ (c : Int) := by omega
            have hend : ANS = some (o, l.drop (k + 1 + 1)) := by
              have := unhide hv
              rw [untext_one] at this
              rw [← this]
              simp
            have hcut := (unhide Hu).cut (show k + 1 + 1 ≤ n by omega)
            have hrl : (l.drop (k + 1 + 1)).length = n - (k + 1 + 1) := by rw [List.length_drop, hlen]
            subst hend
            have HC := hide hcut
            have HR := hide hrl
            clear hcut hrl hs
            go_quiet (fail)
            go_wp2_with fail
            all_goals
              refine bodyPost_ret (results_tmp3 rfl _ _ _) rfl ⟨bdrewN hb _, ?_⟩
              have hcut := unhide HC
              have hrl := unhide HR
              simp only [Nat.mul_one] at hcut
            · refine ⟨some ⟨b, off, none⟩, 0, by rw [hrl]; rfl, ?_⟩
              rw [hrl, bvs_drop]
              rw [if_pos h] at hcut
              simpa [h] using hcut
            · refine ⟨some ⟨b, off + (k + 1 + 1), none⟩, c - (k + 1 + 1), by rw [hrl]; rfl, ?_⟩
              rw [hrl, bvs_drop]
              rw [if_neg h] at hcut
              simpa [Addr.add] using hcut
          · have hend : ANS = none := by
              have := unhide hv
              rw [untext_bad _ h255 h1] at this
              rw [← this]
              rfl
            subst hend
            have e1 : ((y.toNat : Int) == 255) = false := beq_u8 (n := 255) (by omega) h255
            have e2 : ((y.toNat : Int) == 1) = false := beq_u8 (n := 1) (by omega) h1
            clear h255 h1 hs
            go_wp2_with fail
            refine bodyPost_ret (results_tmp3 rfl _ _ _) rfl ⟨hb, rfl⟩
        · have hlt2' : (n : Int) ≤ (k : Int) + 1 := by omega
          have hend : ANS = none := by
            have := unhide hv
            rw [List.drop_of_length_le (by omega), untext_end] at this
            rw [← this]
            rfl
          subst hend
          clear hs hv hsr hlt2 hlen hol
          go_wp2_with fail
          refine bodyPost_ret (results_tmp3 rfl _ _ _) rfl ⟨hb, rfl⟩
      · have hz : ((x.toNat : Int) != 0) = true := by have := beq_u8 (n := 0) (by omega) hx0; rw [bne, show ((x.toNat : Int) == 0) = false from this]; rfl
        have hv' := hide (by have := unhide hv; rw [untext_ne _ hx0] at this; exact this : (Option.map (fun p => (x :: p.1, p.2)) (untext (l.drop (k + 1)))).map (fun p => (o ++ p.1, p.2)) = ANS)
        clear hx0 hs hsr hv
        go_wp2_with (refine app_bytes rfl (.tmp 18) (.tmp 23) rfl rfl (ho.alloc _) rfl (Sl.new1 _ _ _ x rfl) ?_ ?_ ?_; (· simp; omega); (· simp; omega); intro v2 w2 ho2 hx2)
        go_roundw
        case rel => exact ⟨k + 1, o ++ [x], by omega, by go_num, by simp; omega, ho2, hb.trans (Below.trans ((Below.refl _ _).alloc (by omega) _) (hx2.below (by simp; omega) (own_lies ho))), hide (by
          rw [← unhide hv']
          simp [Option.map_map, Function.comp_def])⟩
        case measure => exact (by first | (simp [intOf]; done) | (simp [intOf]; omega))
    · obtain rfl : k = n := by omega
      have hend : ANS = none := by
        have := unhide hv
        rw [List.drop_of_length_le (by omega)] at this
        rw [← this]
        rfl
      subst hend
      clear hs hv
      go_wp2_with fail
      refine bodyPost_ret (results_tmp3 rfl _ _ _) rfl ⟨hb, rfl⟩
end Go.Proofs.YtclhnfalebiieaaDoor
