/-
  Layer 5: Above; what must be answered ahead of everything else; the sizes that the laws ask for.
-/
import Derived.Test.YtclhnfalebiieaaDoorKeysE
import Derived.Lib.SlBytesConst
set_option linter.unusedVariables false
set_option linter.unusedSimpArgs false
namespace Go.Proofs.YtclhnfalebiieaaDoor
open Go.RowKit

/-! ## Above -/
def strip (l : List UInt8) : List UInt8 := (l.reverse.dropWhile (· == 255)).reverse
def bump (l : List UInt8) : List UInt8 := match l.getLast? with | none => [] | some c => l.dropLast ++ [c + 1]
def aboveL (l : List UInt8) : List UInt8 := bump (strip l)
theorem strip_last {l : List UInt8} : strip (l ++ [255]) = strip l := by simp [strip]
theorem strip_stop {l : List UInt8} {c : UInt8} (h : c ≠ 255) : strip (l ++ [c]) = l ++ [c] := by simp [strip, h]
theorem strip_nil : strip [] = [] := rfl
theorem bump_last (l : List UInt8) (c : UInt8) : bump (l ++ [c]) = l ++ [c + 1] := by simp [bump]
theorem take_last {l : List UInt8} {k : Nat} {c : UInt8} (h : l[k]? = some c) : l.take (k + 1) = l.take k ++ [c] := by
  have hk : k < l.length := by
    rcases Nat.lt_or_ge k l.length with h' | h'
    · exact h'
    · rw [List.getElem?_eq_none h'] at h; cases h
  rw [List.take_succ_eq_append_getElem hk]
  congr 2
  rw [List.getElem?_eq_getElem hk] at h; injection h
theorem OwnB.upto {w : World} {B : Nat} {A : Option Addr} {c : Nat} {l : List UInt8} (h : OwnB w B (.slice A l.length c) l) {k : Nat} (hk : k ≤ l.length) : OwnB w B (.slice A k c) (l.take k) := by
  have hl : (l.take k).length = k := by rw [List.length_take]; omega
  unfold OwnB World.ownsRow
  rw [hl]
  refine ⟨by rw [bvs_length, hl]; omega, ?_⟩
  rcases h.2 with ⟨e, h0⟩ | ⟨g, cap, cur, e, hg, hh, hnc, hcm, hsz, ht⟩
  · injection e with e1 e2 e3
    left
    obtain rfl : k = 0 := by omega
    exact ⟨by rw [e1, e3], rfl⟩
  · injection e with e1 e2 e3
    right
    refine ⟨g, cap, cur, by rw [e1, e3], hg, hh, by omega, hcm, hsz, ?_⟩
    have : bvs (l.take k) = (bvs l).take k := by simp [bvs]
    rw [this, ← ht, List.take_take]
    congr 1
    omega

set_option maxRecDepth 100000 in
set_option maxHeartbeats 1000000 in
theorem keysAbove_any (w : World) (A : Option Addr) (n c : Nat) (l : List UInt8) (hs : Sl w 1 A n c (bvs l)) (hn : n ≤ 1000000) :
    Calls Tryd.prog 23 #[.slice A n c] w (NewBytes w (aboveL l)) := by
  obtain ⟨ANS, hA⟩ : ∃ r, aboveL l = r := ⟨_, rfl⟩
  rw [hA]
  have HA := hide hA
  have hlen := hs.blen
  subst hlen
  have hcl := clone_any w A _ c l hs (by omega)
  have Hcl := hide hcl
  clear hA hs hcl
  go_enter Tryd.func23, Tryd.ntmps23
  go_wp2_with (go_at_call 35; refine (unhide Hcl).mono ?_; rintro e w1 ⟨A1, c1, rfl, ho, hs1, hb⟩)
  go_loop [3] (fun v => ∃ k : Nat, k ≤ l.length ∧ v = .slice A1 k c1 ∧ Hid (bump (strip (l.take k)) = ANS)) (fun v => match v with | .slice _ k _ => k | _ => 0)
  case atStart => exact ⟨l.length, by omega, rfl, hide (by rw [List.take_of_length_le (Nat.le_refl _)]; exact unhide HA)⟩
  case round =>
    obtain ⟨k, hk, rfl, hv⟩ := hrel
    clear HA
    have hsk := hs1.upto (k := k) hk
    have hnc := hs1.nc
    rcases k with _ | k
    · have hend : ANS = [] := by rw [← unhide hv]; rfl
      subst hend
      go_wp2_with fail
      go_ret
      exact ⟨none, 0, rfl, OwnB.nil _ _, Sl.zero _ _ _ _ (by simp [maxLen]), hb⟩
    · have hk1 : k < l.length := by omega
      obtain ⟨b, off, x, hA1, hblt, hx, hcell⟩ := hs1.byte hk1
      subst hA1
      have hbytes : (0 : Int) < (k : Int) + 1 := by omega
      have h255 : (x.toNat : Int) < 256 := by have := x.toNat_lt; omega
      have h0 : (0 : Int) ≤ (x.toNat : Int) := by omega
      have hk2 : (k : Int) < (k : Int) + 1 := by omega
      have hk3 : (k : Int) + 1 ≤ (c1 : Int) := by omega
      by_cases hx2 : x = 255
      · have hz : (x.toNat : Int) = 255 := by rw [hx2]; rfl
        have hv2 : Hid (bump (strip (l.take k)) = ANS) := hide (by
          have := unhide hv
          rw [take_last hx, hx2, strip_last] at this
          exact this)
        clear h255 h0 hx hx2
        go_wp2_with fail
        go_round
        case rel => exact ⟨k, by omega, rfl, hv2⟩
        case measure => exact Nat.lt_succ_self _
      · have hz : ((x.toNat : Int) == 255) = false := beq_u8 (n := 255) (by omega) hx2
        have hend : ANS = l.take k ++ [x + 1] := by
          have := unhide hv
          rw [take_last hx, strip_stop hx2, bump_last] at this
          exact this.symm
        subst hend
        have hoff : off = 0 := by
          rcases ho.2 with ⟨e, _⟩ | ⟨g, cap, cur, e, _⟩
          · cases e
          · injection e with e1 e2 e3
            injection e1 with e1
            injection e1
        subst hoff
        simp only [Nat.zero_add] at hcell
        have hfr := World.ownsRow.frozenAt ho k
        have hst := take_last hx
        have HST := hide hst
        have hlk : (l.take k).length = k := by rw [List.length_take]; omega
        have HLK := hide hlk
        clear hx hst hlk hsk
        go_wp2_with fail
        go_ret
        have hu := ho.upto (k := k + 1) hk
        rw [unhide HST] at hu
        have h1 : (l.take k ++ [x]).length = k + 1 := by rw [List.length_append, unhide HLK]; rfl
        unfold OwnB at hu
        rw [h1] at hu
        obtain ⟨h2, h3⟩ := World.ownsRow.stored hu k (.int .u8 (((x.toNat : Int) + 1) % 256))
        have h4 : (bvs (l.take k ++ [x])).set k (.int .u8 (((x.toNat : Int) + 1) % 256)) = bvs (l.take k ++ [x + 1]) := by
          rw [bvs_append, bvs_append, List.set_append_right _ _ (by rw [bvs_length, unhide HLK]; exact Nat.le_refl _), bvs_length, unhide HLK, Nat.sub_self]
          congr 1
        rw [h4] at h2
        have h5 : (l.take k ++ [x + 1]).length = k + 1 := by rw [List.length_append, unhide HLK]; rfl
        have h6 : OwnB (w1.setCell ⟨b, k, none⟩ (.int .u8 (((x.toNat : Int) + 1) % 256))) w.heap.size (.slice (some ⟨b, 0, none⟩) (l.take k ++ [x + 1]).length c1) (l.take k ++ [x + 1]) := by
          unfold OwnB
          rw [h5]
          exact h2
        exact ⟨some ⟨b, 0, none⟩, c1, by rw [h5]; rfl, h6, h6.sl, hb.trans (Below.setCell (Below.refl _ _) (own_lies ho b rfl) _)⟩

/-! ## first, long -/
def longB (l : List Val) : Bool := decide (20 < l.length) || l.any fun x => decide (500 < x.s.length)
theorem getV_one : getV [4, 97, 0, 255, 0, 1, 0] = some [⟨4, 0, 0, [97, 0]⟩, ⟨0, 0, 0, []⟩] := by decide +kernel
theorem getV_two : getV [4, 97, 0, 2] = none := by decide +kernel
theorem encs_one : encs [⟨2, 1, 0, []⟩] = [2, 128, 0, 0, 0, 0, 0, 0, 1] := by decide +kernel
theorem above_one : aboveL [97, 255] = [98] := by decide +kernel

theorem get_one (w : World) (A : Option Addr) (hs : Sl w 1 A 7 7 (bvs [4, 97, 0, 255, 0, 1, 0])) (hT : Tabs w) :
    Calls Tryd.prog 14 #[.slice A 7 7] w (Gotten w (some [⟨4, 0, 0, [97, 0]⟩, ⟨0, 0, 0, []⟩])) := by
  rw [← getV_one]; exact keysGet_any w A 7 7 _ hs (by omega) hT
theorem get_two (w : World) (A : Option Addr) (hs : Sl w 1 A 4 4 (bvs [4, 97, 0, 2])) (hT : Tabs w) :
    Calls Tryd.prog 14 #[.slice A 4 4] w (Gotten w none) := by
  rw [← getV_two]; exact keysGet_any w A 4 4 _ hs (by omega) hT
theorem put_one (w : World) (A : Option Addr) (hs : Sl w 4 A 1 1 (vcs [⟨2, 1, 0, []⟩])) (hT : Tabs w) :
    Calls Tryd.prog 12 #[.slice A 1 1] w (NewBytes w [2, 128, 0, 0, 0, 0, 0, 0, 1]) := by
  rw [← encs_one]; exact keysPut_any w A 1 1 _ hs (by omega) hT
theorem above_two (w : World) (A : Option Addr) (hs : Sl w 1 A 2 2 (bvs [97, 255])) : Calls Tryd.prog 23 #[.slice A 2 2] w (NewBytes w [98]) := by
  rw [← above_one]; exact keysAbove_any w A 2 2 _ hs (by omega)

set_option maxRecDepth 100000 in
set_option maxHeartbeats 1000000 in
theorem first_any (w : World) (hT : Tabs w) : Calls Tryd.prog 10 #[] w (Ret w (.bool true)) := by
  have kc := fun (w : World) (C : Array Value) (n c : Nat) => Lib.run_convert_bytes_const (P := Tryd.prog) w 25 5 C n c Tryd.underlying25 Tryd.underlying5
  go_enter Tryd.func10, Tryd.ntmps10
  go_wp2_with (first
    | (go_at_call 14; ((with_reducible refine (get_one _ _ ?_ ?_).mono ?_); (· exact Sl.fresh _ _ _ 1 7 7 rfl (Nat.le_refl _) (by simp [maxLen])); (· exact hT.below (by repeat (first | with_reducible exact Below.refl _ _ | with_reducible assumption | ((with_reducible refine Below.alloc ?_ ?_ _); rotate_left; (first | exact Nat.le_refl _ | (simp; done) | (simp; omega) | omega)) | ((with_reducible refine Below.setCell ?_ ?_ _); rotate_left; (first | exact Nat.le_refl _ | (simp; done) | (simp; omega) | omega)) | (with_reducible refine Below.drew ?_) | (with_reducible refine Go.RowKit.below_drewN ?_ _)))); rintro e w1 ⟨hb, A1, c1, rfl, hs1⟩; have hbw1 : Below w.heap.size w w1 := below_step hb (by repeat (first | with_reducible exact Below.refl _ _ | with_reducible assumption | ((with_reducible refine Below.alloc ?_ ?_ _); rotate_left; (first | exact Nat.le_refl _ | (simp; done) | (simp; omega) | omega)) | ((with_reducible refine Below.setCell ?_ ?_ _); rotate_left; (first | exact Nat.le_refl _ | (simp; done) | (simp; omega) | omega)) | (with_reducible refine Below.drew ?_) | (with_reducible refine Go.RowKit.below_drewN ?_ _))) (by first | exact Nat.le_refl _ | (simp; done) | (simp; omega) | omega); have hz1 := hbw1.size; clear hb))
    | (go_at_call 14; ((with_reducible refine (get_two _ _ ?_ ?_).mono ?_); (· exact Sl.fresh _ _ _ 1 4 4 rfl (Nat.le_refl _) (by simp [maxLen])); (· exact hT.below (by repeat (first | with_reducible exact Below.refl _ _ | with_reducible assumption | ((with_reducible refine Below.alloc ?_ ?_ _); rotate_left; (first | exact Nat.le_refl _ | (simp; done) | (simp; omega) | omega)) | ((with_reducible refine Below.setCell ?_ ?_ _); rotate_left; (first | exact Nat.le_refl _ | (simp; done) | (simp; omega) | omega)) | (with_reducible refine Below.drew ?_) | (with_reducible refine Go.RowKit.below_drewN ?_ _)))); rintro e w2 ⟨hb, rfl⟩; have hbw2 : Below w.heap.size w w2 := below_step hb (by repeat (first | with_reducible exact Below.refl _ _ | with_reducible assumption | ((with_reducible refine Below.alloc ?_ ?_ _); rotate_left; (first | exact Nat.le_refl _ | (simp; done) | (simp; omega) | omega)) | ((with_reducible refine Below.setCell ?_ ?_ _); rotate_left; (first | exact Nat.le_refl _ | (simp; done) | (simp; omega) | omega)) | (with_reducible refine Below.drew ?_) | (with_reducible refine Go.RowKit.below_drewN ?_ _))) (by first | exact Nat.le_refl _ | (simp; done) | (simp; omega) | omega); have hs2 := (hs1.alloc _).mono hb; have hz2 := hbw2.size; clear hb))
    | (go_at_call 12; ((with_reducible refine (put_one _ _ ?_ ?_).mono ?_); (· exact Sl.newVal _ ⟨2, 1, 0, []⟩ _ rfl); (· exact hT.below (by repeat (first | with_reducible exact Below.refl _ _ | with_reducible assumption | ((with_reducible refine Below.alloc ?_ ?_ _); rotate_left; (first | exact Nat.le_refl _ | (simp; done) | (simp; omega) | omega)) | ((with_reducible refine Below.setCell ?_ ?_ _); rotate_left; (first | exact Nat.le_refl _ | (simp; done) | (simp; omega) | omega)) | (with_reducible refine Below.drew ?_) | (with_reducible refine Go.RowKit.below_drewN ?_ _)))); rintro e w3 ⟨A3, c3, rfl, ho3, hs3, hb⟩; have hbw3 : Below w.heap.size w w3 := below_step hb (by repeat (first | with_reducible exact Below.refl _ _ | with_reducible assumption | ((with_reducible refine Below.alloc ?_ ?_ _); rotate_left; (first | exact Nat.le_refl _ | (simp; done) | (simp; omega) | omega)) | ((with_reducible refine Below.setCell ?_ ?_ _); rotate_left; (first | exact Nat.le_refl _ | (simp; done) | (simp; omega) | omega)) | (with_reducible refine Below.drew ?_) | (with_reducible refine Go.RowKit.below_drewN ?_ _))) (by first | exact Nat.le_refl _ | (simp; done) | (simp; omega) | omega); have hs2' := (hs2.alloc _).mono hb; have hz3 := hbw3.size; clear hb; obtain ⟨b1, o1, x1, hA1, _, hx1, p0, p1, p2, p3⟩ := hs2'.val (k := 0) (by decide); subst hA1; simp only [List.getElem?_cons_zero, Option.some.injEq] at hx1; subst hx1; simp only [Nat.zero_mul, Nat.add_zero] at p0 p1 p2 p3))
    | (refine wpList_sl_string rfl 25 9 5 (.tmp 19) rfl Tryd.underlying25 Tryd.underlying5 Tryd.underlying9 rfl (hs3) ?_)
    | (go_at_call 23; ((with_reducible refine (above_two _ _ ?_).mono ?_); (· exact Sl.fresh _ _ _ 1 2 2 rfl (Nat.le_refl _) (by simp [maxLen])); rintro e w4 ⟨A4, c4, rfl, ho4, hs4, hb⟩; have hbw4 : Below w.heap.size w w4 := below_step hb (by repeat (first | with_reducible exact Below.refl _ _ | with_reducible assumption | ((with_reducible refine Below.alloc ?_ ?_ _); rotate_left; (first | exact Nat.le_refl _ | (simp; done) | (simp; omega) | omega)) | ((with_reducible refine Below.setCell ?_ ?_ _); rotate_left; (first | exact Nat.le_refl _ | (simp; done) | (simp; omega) | omega)) | (with_reducible refine Below.drew ?_) | (with_reducible refine Go.RowKit.below_drewN ?_ _))) (by first | exact Nat.le_refl _ | (simp; done) | (simp; omega) | omega); have hcv : (convert 25 9 (.slice A4 1 c4)).run Tryd.prog w4 = .ok (.string ⟨#[98]⟩) w4 := run_sl_string w4 _ _ _ Tryd.underlying25 Tryd.underlying5 Tryd.underlying9 A4 1 c4 [98] hs4; clear hb)))
  go_ret
  exact ⟨rfl, hbw4⟩
end Go.Proofs.YtclhnfalebiieaaDoor
