/-
  The law KeysAbove: its walk.
-/
import Derived.Test.YtiglfphjacghbaaDoorLawAbove
set_option linter.unusedVariables false
set_option linter.unusedSimpArgs false
namespace Go.Proofs.YtiglfphjacghbaaDoor
open Go.RowKit

theorem dropWhile_len (p : UInt8 → Bool) (l : List UInt8) : (l.dropWhile p).length ≤ l.length := by
  induction l with
  | nil => simp
  | cons a l ih => rw [List.dropWhile_cons]; split <;> simp only [List.length_cons] <;> omega
theorem aboveL_len (l : List UInt8) : (aboveL l).length ≤ l.length := by
  have h1 : (strip l).length ≤ l.length := by
    unfold strip
    rw [List.length_reverse]
    have := dropWhile_len (· == 255) l.reverse
    rwa [List.length_reverse] at this
  have h2 : (bump (strip l)).length ≤ (strip l).length := by
    generalize strip l = s
    unfold bump
    rcases hg : s.getLast? with _ | c
    · simp
    · have : s ≠ [] := by intro e; subst e; simp at hg
      have := List.length_pos_iff.2 this
      simp only [List.length_append, List.length_dropLast, List.length_cons, List.length_nil]
      omega
  unfold aboveL
  omega
/-- a conversion of bytes that lie in an old world, in every later world -/
def ConvIn (w : World) (A : Option Addr) (n c : Nat) (l : List UInt8) : Prop := ∀ W, Below w.heap.size w W → (convert 25 9 (.slice A n c)).run Tryd.prog W = .ok (.string ⟨l.toArray⟩) W
theorem Sl.conv {w : World} {A : Option Addr} {n c : Nat} {l : List UInt8} (h : Sl w 1 A n c (bvs l)) : ConvIn w A n c l := fun W hb =>
  run_sl_string W _ _ _ Tryd.underlying25 Tryd.underlying5 Tryd.underlying9 A n c l (h.mono hb)

set_option maxRecDepth 100000 in
set_option maxHeartbeats 2000000 in
theorem keysAboveLaw (w : World) (A1 A2 : Option Addr) (n1 c1 n2 c2 : Nat) (b r : List UInt8) (hs1 : Sl w 1 A1 n1 c1 (bvs b)) (hs2 : Sl w 1 A2 n2 c2 (bvs r)) (hT : Tabs w) :
    Calls Tryd.prog 6 #[.slice A1 n1 c1, .slice A2 n2 c2] w (Ret w (.bool true)) := by
  have hl1 := hs1.blen
  have hl2 := hs2.blen
  subst hl1
  subst hl2
  have hfirst := fun W h => first_any W h
  have Hf := hide hfirst
  have m1 : (b.length : Int) ≤ 9223372036854775807 := by have := hs1.nc; have := hs1.cm; simp only [maxLen] at this; omega
  have m2 : (r.length : Int) ≤ 9223372036854775807 := by have := hs2.nc; have := hs2.cm; simp only [maxLen] at this; omega
  clear hfirst
  by_cases h1 : 300 < b.length
  · have h1' : (300 : Int) < (b.length : Int) := by omega
    clear hs1 hs2
    go_enter Tryd.func6, Tryd.ntmps6
    go_wp2_with (go_at_call 8; refine (unhide Hf _ hT).mono ?_; rintro e w1 ⟨rfl, hb⟩)
    go_ret
    exact ⟨rfl, hb⟩
  by_cases h2 : 300 < r.length
  · have h1' : (b.length : Int) ≤ 300 := by omega
    have h2' : (300 : Int) < (r.length : Int) := by omega
    clear hs1 hs2
    go_enter Tryd.func6, Tryd.ntmps6
    go_wp2_with (go_at_call 8; refine (unhide Hf _ hT).mono ?_; rintro e w1 ⟨rfl, hb⟩)
    go_ret
    exact ⟨rfl, hb⟩
  have h1' : (b.length : Int) ≤ 300 := by omega
  have h2' : (r.length : Int) ≤ 300 := by omega
  have Hs1 := hide hs1
  have Hs2 := hide hs2
  obtain ⟨a, ha⟩ : ∃ a, aboveL b = a := ⟨_, rfl⟩
  have hka := fun W (h : Below w.heap.size w W) => keysAbove_any W A1 b.length c1 b (hs1.mono h) (by omega)
  have hra := fun W => refAbove_any W b (by omega)
  simp only [ha] at hka hra
  have Hka := hide hka
  have Hra := hide hra
  have HA := hide ha
  have H1 := hide h1
  have H2 := hide h2
  clear hs1 hs2 hka hra ha h1 h2
  go_enter Tryd.func6, Tryd.ntmps6
  go_wp2_with (first
    | (go_at_call 8; refine (unhide Hf _ hT).mono ?_; rintro e w1 ⟨rfl, hb1⟩; have hz1 := hb1.size)
    | (go_at_call 21; refine (unhide Hka _ hb1).mono ?_; rintro e w2 ⟨A3, c3, rfl, ho3, hs3, hb⟩; have hb2 : Below w.heap.size w w2 := below_step hb hb1 (by first | exact Nat.le_refl _ | (simp; done) | (simp; omega) | omega); have hz2 := hb2.size; clear hb ho3))
  have HC3 := hide hs3.conv
  have HC1 := hide ((unhide Hs1).mono hb2).conv
  have Hs3 := hide hs3
  clear hs3
  go_region_held3 (fun w' => (convert 25 9 (.slice A3 a.length c3)).run Tryd.prog w' = .ok (.string ⟨a.toArray⟩) w' ∧ (convert 25 9 (.slice A1 b.length c1)).run Tryd.prog w' = .ok (.string ⟨b.toArray⟩) w')
    (first | exact ⟨unhide HC3 _ (Below.refl _ _).drew, unhide HC1 _ (Below.refl _ _).drew⟩ | exact ⟨unhide HC3 _ hb3, unhide HC1 _ hb3⟩)
    ((first | (go_at_call 22; refine (unhide Hra _).mono ?_; rintro e w3 ⟨rfl, hb⟩; have hb3 : Below w2.heap.size w2 w3 := below_step hb (by repeat (first | with_reducible exact Below.refl _ _ | with_reducible assumption | ((with_reducible refine Below.alloc ?_ ?_ _); rotate_left; (first | exact Nat.le_refl _ | (simp; done) | (simp; omega) | omega)) | ((with_reducible refine Below.setCell ?_ ?_ _); rotate_left; (first | exact Nat.le_refl _ | (simp; done) | (simp; omega) | omega)) | (with_reducible refine Below.drew ?_) | (with_reducible refine bdrewN ?_ _))) (by first | exact Nat.le_refl _ | (simp; done) | (simp; omega) | omega); clear hb)))
  have hb3' : Below w.heap.size w w3 := below_step hb3 hb2 (by omega)
  have HC3' := hide ((unhide Hs3).mono hb3).conv
  have s1 := (unhide Hs1).mono hb3'
  have s2 := (unhide Hs2).mono hb3'
  have hc1 := s1.conv w3 (Below.refl _ _)
  have hc2 := s2.conv w3 (Below.refl _ _)
  have Hs3' := hide ((unhide Hs3).mono hb3)
  clear hb1 hz1 hz2 HC1 HC3 Hs3
  by_cases hae : a = []
  · have hz : ((a.length : Int) == 0) = true := by rw [hae]; rfl
    clear hae s1 s2
    go_wp2_with fail
    go_ret
    exact ⟨rfl, hb3'⟩
  have hz : ((a.length : Int) == 0) = false := by
    rw [beq_eq_false_iff_ne]
    intro e
    exact hae (List.eq_nil_of_length_eq_zero (by omega))
  have hlaw := above_law b r (by rw [unhide HA]; exact hae)
  rw [unhide HA] at hlaw
  have hal : a.length ≤ b.length := by rw [← unhide HA]; exact aboveL_len b
  have hx1 := fun W => texts_any W (b ++ r) a (by have := unhide H1; have := unhide H2; simp; omega) (by have := unhide H1; omega)
  have hx2 := fun W => texts_any W r b (by have := unhide H2; omega) (by have := unhide H1; omega)
  have hx3 := fun W => texts_any W r a (by have := unhide H2; omega) (by have := unhide H1; omega)
  obtain ⟨hl1, hl2⟩ := hlaw
  obtain ⟨X, hX⟩ : ∃ X, textCmp (b ++ r) a = X := ⟨_, rfl⟩
  obtain ⟨Y, hY⟩ : ∃ Y, textCmp r b = Y := ⟨_, rfl⟩
  obtain ⟨Z, hZ⟩ : ∃ Z, textCmp r a = Z := ⟨_, rfl⟩
  simp only [hX, hY, hZ] at hl1 hl2 hx1 hx2 hx3
  have Hx1 := hide hx1
  have Hx2 := hide hx2
  have Hx3 := hide hx3
  clear hX hY hZ hx1 hx2 hx3 hae hal
  have sap : (⟨b.toArray⟩ : ByteArray) ++ ⟨r.toArray⟩ = ⟨(b ++ r).toArray⟩ := str_app b r
  by_cases hle : b.length ≤ r.length
  · have hle' : (b.length : Int) ≤ (r.length : Int) := by omega
    have hd : decide ((b.length : Int) ≤ (r.length : Int)) = true := decide_eq_true hle'
    have s3 := s2.upto (k := b.length) hle
    have hk3 : bvs (r.take b.length) = (bvs r).take (b.length * 1) := by simp [bvs]
    rw [← hk3] at s3
    have hcq1 : ∀ q, _ := fun q => s1.conv (w3.drewN q) (bdrewN (Below.refl _ _) q)
    have hcq3 : ∀ q, _ := fun q => s3.conv (w3.drewN q) (bdrewN (Below.refl _ _) q)
    have S1 := hide s1
    have S2 := hide s2
    have hcap : (b.length : Int) ≤ (c2 : Int) := by have := s2.nc; omega
    clear s1 s2 s3 hk3 hle
    go_wp2_with fail
    go_quiet (fail)
    have HB4 := bdrewN hb3' nq
    have HK3q := (unhide Hs3').mono (bdrewN (Below.refl _ _) nq)
    generalize w3.drewN nq = w4 at HB4 HK3q ⊢
    clear hcq1 hcq3 hc1 hc2 S1 S2
    have k1 := ((unhide Hs1).mono HB4).conv
    have k2 := ((unhide Hs2).mono HB4).conv
    have k3 := HK3q.conv
    unfold ConvIn at k1 k2 k3
    have r4 := Below.refl w4.heap.size w4
    have k10 := k1 w4 r4
    have k20 := k2 w4 r4
    have k30 := k3 w4 r4
    have hb4 := HB4
    clear HB4 HK3q hb3 hb3' hb2
    rcases hG : (r.take b.length == b) with _ | _
    · have hnb : ¬ (b.length ≤ r.length ∧ r.take b.length = b) := fun h => by rw [h.2] at hG; simp at hG
      by_cases hY : Y < 0
      · go_wp2_with (first | (go_at_call 20; ((with_reducible refine (unhide Hx1 _).mono ?_); rintro e w5 ⟨rfl, hq⟩; have hb5 : Below w4.heap.size w4 w5 := below_step hq (by repeat (first | with_reducible exact Below.refl _ _ | with_reducible assumption | ((with_reducible refine Below.alloc ?_ ?_ _); rotate_left; (first | exact Nat.le_refl _ | (simp; done) | (simp; omega) | omega)) | ((with_reducible refine Below.setCell ?_ ?_ _); rotate_left; (first | exact Nat.le_refl _ | (simp; done) | (simp; omega) | omega)) | (with_reducible refine Below.drew ?_) | (with_reducible refine bdrewN ?_ _))) (by first | exact Nat.le_refl _ | (simp; done) | (simp; omega) | omega); have hz5 := hb5.size; clear hq)) | (go_at_call 20; ((with_reducible refine (unhide Hx2 _).mono ?_); rintro e w6 ⟨rfl, hq⟩; have hb6 : Below w4.heap.size w4 w6 := below_step hq (by repeat (first | with_reducible exact Below.refl _ _ | with_reducible assumption | ((with_reducible refine Below.alloc ?_ ?_ _); rotate_left; (first | exact Nat.le_refl _ | (simp; done) | (simp; omega) | omega)) | ((with_reducible refine Below.setCell ?_ ?_ _); rotate_left; (first | exact Nat.le_refl _ | (simp; done) | (simp; omega) | omega)) | (with_reducible refine Below.drew ?_) | (with_reducible refine bdrewN ?_ _))) (by first | exact Nat.le_refl _ | (simp; done) | (simp; omega) | omega); have hz6 := hb6.size; clear hq)))
        go_ret
        exact ⟨rfl, hb4.trans (hb6.mono hb4.size)⟩
      · have hZ : 0 ≤ Z := by rcases hl2 with h | h | h; (· exact absurd h hnb); (· omega); (· exact h)
        have hY' : 0 ≤ Y := by omega
        clear hY
        go_wp2_with (first | (go_at_call 20; ((with_reducible refine (unhide Hx1 _).mono ?_); rintro e w5 ⟨rfl, hq⟩; have hb5 : Below w4.heap.size w4 w5 := below_step hq (by repeat (first | with_reducible exact Below.refl _ _ | with_reducible assumption | ((with_reducible refine Below.alloc ?_ ?_ _); rotate_left; (first | exact Nat.le_refl _ | (simp; done) | (simp; omega) | omega)) | ((with_reducible refine Below.setCell ?_ ?_ _); rotate_left; (first | exact Nat.le_refl _ | (simp; done) | (simp; omega) | omega)) | (with_reducible refine Below.drew ?_) | (with_reducible refine bdrewN ?_ _))) (by first | exact Nat.le_refl _ | (simp; done) | (simp; omega) | omega); have hz5 := hb5.size; clear hq)) | (go_at_call 20; ((with_reducible refine (unhide Hx2 _).mono ?_); rintro e w6 ⟨rfl, hq⟩; have hb6 : Below w4.heap.size w4 w6 := below_step hq (by repeat (first | with_reducible exact Below.refl _ _ | with_reducible assumption | ((with_reducible refine Below.alloc ?_ ?_ _); rotate_left; (first | exact Nat.le_refl _ | (simp; done) | (simp; omega) | omega)) | ((with_reducible refine Below.setCell ?_ ?_ _); rotate_left; (first | exact Nat.le_refl _ | (simp; done) | (simp; omega) | omega)) | (with_reducible refine Below.drew ?_) | (with_reducible refine bdrewN ?_ _))) (by first | exact Nat.le_refl _ | (simp; done) | (simp; omega) | omega); have hz6 := hb6.size; clear hq)) | (go_at_call 20; ((with_reducible refine (unhide Hx3 _).mono ?_); rintro e w7 ⟨rfl, hq⟩; have hb7 : Below w4.heap.size w4 w7 := below_step hq (by repeat (first | with_reducible exact Below.refl _ _ | with_reducible assumption | ((with_reducible refine Below.alloc ?_ ?_ _); rotate_left; (first | exact Nat.le_refl _ | (simp; done) | (simp; omega) | omega)) | ((with_reducible refine Below.setCell ?_ ?_ _); rotate_left; (first | exact Nat.le_refl _ | (simp; done) | (simp; omega) | omega)) | (with_reducible refine Below.drew ?_) | (with_reducible refine bdrewN ?_ _))) (by first | exact Nat.le_refl _ | (simp; done) | (simp; omega) | omega); have hz7 := hb7.size; clear hq)))
        go_ret
        exact ⟨rfl, hb4.trans (hb7.mono hb4.size)⟩
    · clear hl2
      go_wp2_with (go_at_call 20; ((with_reducible refine (unhide Hx1 _).mono ?_); rintro e w5 ⟨rfl, hq⟩; have hb5 : Below w4.heap.size w4 w5 := below_step hq (by repeat (first | with_reducible exact Below.refl _ _ | with_reducible assumption | ((with_reducible refine Below.alloc ?_ ?_ _); rotate_left; (first | exact Nat.le_refl _ | (simp; done) | (simp; omega) | omega)) | ((with_reducible refine Below.setCell ?_ ?_ _); rotate_left; (first | exact Nat.le_refl _ | (simp; done) | (simp; omega) | omega)) | (with_reducible refine Below.drew ?_) | (with_reducible refine bdrewN ?_ _))) (by first | exact Nat.le_refl _ | (simp; done) | (simp; omega) | omega); have hz5 := hb5.size; clear hq))
      go_ret
      exact ⟨rfl, hb4.trans (hb5.mono hb4.size)⟩
  · have hle' : (r.length : Int) < (b.length : Int) := by omega
    have hd : decide ((b.length : Int) ≤ (r.length : Int)) = false := decide_eq_false (by omega)
    have hnb : ¬ (b.length ≤ r.length ∧ r.take b.length = b) := fun h => hle h.1
    have hd' : decide (b.length ≤ r.length) = false := decide_eq_false hle
    clear s1 s2 hle
    go_wp2_with fail
    go_quiet (fail)
    have HB4 := bdrewN hb3' nq
    have HK3q := (unhide Hs3').mono (bdrewN (Below.refl _ _) nq)
    generalize w3.drewN nq = w4 at HB4 HK3q ⊢
    clear hc1 hc2
    have k1 := ((unhide Hs1).mono HB4).conv
    have k2 := ((unhide Hs2).mono HB4).conv
    have k3 := HK3q.conv
    unfold ConvIn at k1 k2 k3
    have r4 := Below.refl w4.heap.size w4
    have k10 := k1 w4 r4
    have k20 := k2 w4 r4
    have k30 := k3 w4 r4
    have hb4 := HB4
    clear HB4 HK3q hb3 hb3' hb2
    by_cases hY : Y < 0
    · go_wp2_with (first | (go_at_call 20; ((with_reducible refine (unhide Hx1 _).mono ?_); rintro e w5 ⟨rfl, hq⟩; have hb5 : Below w4.heap.size w4 w5 := below_step hq (by repeat (first | with_reducible exact Below.refl _ _ | with_reducible assumption | ((with_reducible refine Below.alloc ?_ ?_ _); rotate_left; (first | exact Nat.le_refl _ | (simp; done) | (simp; omega) | omega)) | ((with_reducible refine Below.setCell ?_ ?_ _); rotate_left; (first | exact Nat.le_refl _ | (simp; done) | (simp; omega) | omega)) | (with_reducible refine Below.drew ?_) | (with_reducible refine bdrewN ?_ _))) (by first | exact Nat.le_refl _ | (simp; done) | (simp; omega) | omega); have hz5 := hb5.size; clear hq)) | (go_at_call 20; ((with_reducible refine (unhide Hx2 _).mono ?_); rintro e w6 ⟨rfl, hq⟩; have hb6 : Below w4.heap.size w4 w6 := below_step hq (by repeat (first | with_reducible exact Below.refl _ _ | with_reducible assumption | ((with_reducible refine Below.alloc ?_ ?_ _); rotate_left; (first | exact Nat.le_refl _ | (simp; done) | (simp; omega) | omega)) | ((with_reducible refine Below.setCell ?_ ?_ _); rotate_left; (first | exact Nat.le_refl _ | (simp; done) | (simp; omega) | omega)) | (with_reducible refine Below.drew ?_) | (with_reducible refine bdrewN ?_ _))) (by first | exact Nat.le_refl _ | (simp; done) | (simp; omega) | omega); have hz6 := hb6.size; clear hq)))
      go_ret
      exact ⟨rfl, hb4.trans (hb6.mono hb4.size)⟩
    · have hZ : 0 ≤ Z := by rcases hl2 with h | h | h; (· exact absurd h hnb); (· omega); (· exact h)
      have hY' : 0 ≤ Y := by omega
      clear hY
      go_wp2_with (first | (go_at_call 20; ((with_reducible refine (unhide Hx1 _).mono ?_); rintro e w5 ⟨rfl, hq⟩; have hb5 : Below w4.heap.size w4 w5 := below_step hq (by repeat (first | with_reducible exact Below.refl _ _ | with_reducible assumption | ((with_reducible refine Below.alloc ?_ ?_ _); rotate_left; (first | exact Nat.le_refl _ | (simp; done) | (simp; omega) | omega)) | ((with_reducible refine Below.setCell ?_ ?_ _); rotate_left; (first | exact Nat.le_refl _ | (simp; done) | (simp; omega) | omega)) | (with_reducible refine Below.drew ?_) | (with_reducible refine bdrewN ?_ _))) (by first | exact Nat.le_refl _ | (simp; done) | (simp; omega) | omega); have hz5 := hb5.size; clear hq)) | (go_at_call 20; ((with_reducible refine (unhide Hx2 _).mono ?_); rintro e w6 ⟨rfl, hq⟩; have hb6 : Below w4.heap.size w4 w6 := below_step hq (by repeat (first | with_reducible exact Below.refl _ _ | with_reducible assumption | ((with_reducible refine Below.alloc ?_ ?_ _); rotate_left; (first | exact Nat.le_refl _ | (simp; done) | (simp; omega) | omega)) | ((with_reducible refine Below.setCell ?_ ?_ _); rotate_left; (first | exact Nat.le_refl _ | (simp; done) | (simp; omega) | omega)) | (with_reducible refine Below.drew ?_) | (with_reducible refine bdrewN ?_ _))) (by first | exact Nat.le_refl _ | (simp; done) | (simp; omega) | omega); have hz6 := hb6.size; clear hq)) | (go_at_call 20; ((with_reducible refine (unhide Hx3 _).mono ?_); rintro e w7 ⟨rfl, hq⟩; have hb7 : Below w4.heap.size w4 w7 := below_step hq (by repeat (first | with_reducible exact Below.refl _ _ | with_reducible assumption | ((with_reducible refine Below.alloc ?_ ?_ _); rotate_left; (first | exact Nat.le_refl _ | (simp; done) | (simp; omega) | omega)) | ((with_reducible refine Below.setCell ?_ ?_ _); rotate_left; (first | exact Nat.le_refl _ | (simp; done) | (simp; omega) | omega)) | (with_reducible refine Below.drew ?_) | (with_reducible refine bdrewN ?_ _))) (by first | exact Nat.le_refl _ | (simp; done) | (simp; omega) | omega); have hz7 := hb7.size; clear hq)))
      go_ret
      exact ⟨rfl, hb4.trans (hb7.mono hb4.size)⟩
end Go.Proofs.YtiglfphjacghbaaDoor
