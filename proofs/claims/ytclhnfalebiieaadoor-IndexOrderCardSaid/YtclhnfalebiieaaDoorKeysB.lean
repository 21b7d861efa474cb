/-
  Layer 5: one value's bytes, and a key.
-/
import Derived.Test.YtclhnfalebiieaaDoorKeysA
import Derived.Deep.DeepCutAuto
set_option linter.unusedVariables false
set_option linter.unusedSimpArgs false
namespace Go.Proofs.YtclhnfalebiieaaDoor
open Go.RowKit

theorem ext_of_below {w w1 : World} {v : Value} (h : Below w.heap.size w w1) : Ext w v w1 v := (Ext.refl w v).after h
theorem ValAt.below {w w' : World} {b o B : Nat} {x : Val} (h : ValAt w b o x) (hb : Below B w w') (hlt : b < B) : ValAt w' b o x := by
  obtain ⟨h0, h1, h2, h3⟩ := h
  have e : ∀ o, w'.cell? ⟨b, o, none⟩ = w.cell? ⟨b, o, none⟩ := fun o => hb.cell (p := ⟨b, o, none⟩) hlt
  exact ⟨(e _).trans h0, (e _).trans h1, (e _).trans h2, (e _).trans h3⟩
theorem ValAt.ext {w w' : World} {b o : Nat} {x : Val} {v v' : Value} (h : ValAt w b o x) (hx : Ext w v w' v') (hlt : b < w.heap.size) (hne : some b ≠ v.ownBlock) : ValAt w' b o x := by
  obtain ⟨h0, h1, h2, h3⟩ := h
  have e : ∀ o, w'.cell? ⟨b, o, none⟩ = w.cell? ⟨b, o, none⟩ := fun o => World.cell?_of_block (a := ⟨b, o, none⟩) (hx.grown.block b hlt hne)
  exact ⟨(e _).trans h0, (e _).trans h1, (e _).trans h2, (e _).trans h3⟩

theorem Ext.cell {w w' : World} {b o : Nat} {v v' u : Value} (hx : Ext w v w' v') (hlt : b < w.heap.size) (hne : some b ≠ v.ownBlock) (h : w.cell? ⟨b, o, none⟩ = some u) : w'.cell? ⟨b, o, none⟩ = some u :=
  (World.cell?_of_block (a := ⟨b, o, none⟩) (hx.grown.block b hlt hne)).trans h
theorem Ext.ne {w w' : World} {b : Nat} {v v' : Value} (hx : Ext w v w' v') (hlt : b < w.heap.size) (hne : some b ≠ v.ownBlock) : some b ≠ v'.ownBlock := by
  rcases hx.lies with e | ⟨g, e, hg⟩ <;> rw [e]
  · exact hne
  · intro e2
    injection e2 with e2
    omega
theorem right_cases {y : Val} (h : right y = true) : y.kind = 0 ∨ (y.kind = 1 ∧ 0 ≤ y.n ∧ y.n ≤ 1) ∨ y.kind = 2 ∨ (y.kind = 3 ∧ 0 ≤ y.scale ∧ y.scale ≤ 6) ∨ (y.kind = 4 ∧ y.s.length ≤ 200) ∨ (y.kind = 5 ∧ y.s.length ≤ 200) := by
  unfold right at h
  split at h
  · exact .inl ‹_›
  split at h
  · have := of_decide_eq_true h
    exact .inr (.inl ⟨‹_›, by omega, by omega⟩)
  split at h
  · exact .inr (.inr (.inl ‹_›))
  split at h
  · have := of_decide_eq_true h
    exact .inr (.inr (.inr (.inl ⟨‹_›, this.2⟩)))
  split at h
  · rw [Bool.and_eq_true] at h
    have := of_decide_eq_true h.1
    exact .inr (.inr (.inr (.inr (.inl ⟨‹_›, this.2.2⟩))))
  split at h
  · have := of_decide_eq_true h
    exact .inr (.inr (.inr (.inr (.inr ⟨‹_›, this.2.2⟩))))
  · cases h

set_option maxRecDepth 100000 in
set_option maxHeartbeats 1000000 in
theorem put_any (w : World) (B : Nat) (v : Value) (l : List UInt8) (x : Val) (hB : B ≤ w.heap.size) (hown : OwnB w B v l) (hl : l.length ≤ 100000000) (hT : Tabs w) :
    Calls Tryd.prog 31 #[v, .agg #[.int .i64 x.kind, .int .i64 x.n, .int .i64 x.scale, .string ⟨x.s.toArray⟩]] w (Appends w B v (l ++ enc x)) := by
  have hr : ∀ w, Tabs w → _ := fun w h => right_any x w h
  have hlt : ∀ k, v.ownBlock = some k → k < w.heap.size := fun k hk => (World.ownsRow.lt hown k hk).2
  have Hlt := hide hlt
  have Hr := hide hr
  have hy := right_plain x
  unfold enc
  obtain ⟨y, hyx⟩ : ∃ y, plain x = y := ⟨_, rfl⟩
  rw [hyx] at hy ⊢
  have HY := hide hy
  have HYX := hide hyx
  clear hlt hr hy hyx
  go_enter Tryd.func31, Tryd.ntmps31
  go_upto_if 7 with (go_at_call 34; refine (unhide Hr _ (hT.below (by repeat (first | with_reducible exact Below.refl _ _ | with_reducible assumption | ((with_reducible refine Below.alloc ?_ ?_ _); rotate_left; (first | exact Nat.le_refl _ | (simp; done) | (simp; omega) | omega)) | ((with_reducible refine Below.setCell ?_ ?_ _); rotate_left; (first | exact Nat.le_refl _ | (simp; done) | (simp; omega) | omega)) | (with_reducible refine Below.drew ?_) | (with_reducible refine bdrewN ?_ _))))).mono ?_; rintro e w1 ⟨rfl, hb⟩; have hbw : Below w.heap.size w w1 := below_step hb (by repeat (first | with_reducible exact Below.refl _ _ | with_reducible assumption | ((with_reducible refine Below.alloc ?_ ?_ _); rotate_left; (first | exact Nat.le_refl _ | (simp; done) | (simp; omega) | omega)) | ((with_reducible refine Below.setCell ?_ ?_ _); rotate_left; (first | exact Nat.le_refl _ | (simp; done) | (simp; omega) | omega)) | (with_reducible refine Below.drew ?_) | (with_reducible refine bdrewN ?_ _))) (by first | exact Nat.le_refl _ | (simp; done) | (simp; omega) | omega); obtain ⟨hb1, hb2, hb3⟩ := bcell hb; (try simp at hb3); clear hb)
  go_cut [] (fun wx => ValAt wx w.heap.size 0 y ∧ Below w.heap.size w wx ∧ w.heap.size < wx.heap.size)
  case first =>
    try simp at hb3
    rcases hx : right x with _ | _
    all_goals
      go_wp2_with fail
      go_meet
      exact ⟨by rw [← unhide HYX]; simp [ValAt, hb1, plain, hx, vnull, go_sem], (by repeat (first | with_reducible exact Below.refl _ _ | with_reducible assumption | ((with_reducible refine Below.alloc ?_ ?_ _); rotate_left; (first | exact Nat.le_refl _ | (simp; done) | (simp; omega) | omega)) | ((with_reducible refine Below.setCell ?_ ?_ _); rotate_left; (first | exact Nat.le_refl _ | (simp; done) | (simp; omega) | omega)) | (with_reducible refine Below.drew ?_) | (with_reducible refine bdrewN ?_ _))), by first | omega | (simp; omega)⟩
  case rest =>
    obtain ⟨hv, hbw, hlt⟩ := hcut
    clear hb1 hb2 hb3 Hr
    have hne : some w.heap.size ≠ v.ownBlock := fun e => by have := unhide Hlt _ e.symm; omega
    have howx : OwnB wc B v l := hown.below hbw (Nat.le_refl _)
    have hxw : Ext w v wc v := ext_of_below hbw
    have hBc : B ≤ wc.heap.size := by omega
    have hcs := right_cases (unhide HY)
    obtain ⟨k, n, sc, s⟩ := y
    clear HY HYX hown hbw Hlt hT
    have hvo := hv
    simp only [ValAt, Nat.zero_add] at hvo
    obtain ⟨p0, p1, p2, p3⟩ := hvo
    rcases hcs with h | ⟨h, h1, h2⟩ | h | ⟨h, h1, h2⟩ | ⟨h, h1⟩ | ⟨h, h1⟩
    · obtain rfl : k = 0 := h
      go_wp2_with (refine app_bytes rfl (.tmp 9) (.tmp 13) rfl rfl (howx.alloc _) rfl (Sl.new1 _ _ _ 0 rfl) ?_ ?_ ?_; (· simp; omega); (· simp; omega); intro v2 w2 ho2 hx2; have hv2 := (hv.below ((Below.refl _ _).alloc (Nat.le_refl _) _) hlt).ext hx2 (by simp; omega) hne; simp only [ValAt, Nat.zero_add] at hv2; obtain ⟨q0, q1, q2, q3⟩ := hv2; have hs2 := hx2.grown.size; simp at hs2; replace hs2 : w.heap.size < w2.heap.size := by omega)
      go_ret
      exact ⟨_, rfl, ho2, (hxw.alloc _).trans hx2⟩
    · obtain rfl : k = 1 := h
      replace h1 : 0 ≤ n := h1
      replace h2 : n ≤ 1 := h2
      go_wp2_with (first | (refine app_bytes rfl (.tmp 9) (.tmp 13) rfl rfl (howx.alloc _) rfl (Sl.new1 _ _ _ 1 rfl) ?_ ?_ ?_; (· simp; omega); (· simp; omega); intro v2 w2 ho2 hx2; have hv2 := (hv.below ((Below.refl _ _).alloc (Nat.le_refl _) _) hlt).ext hx2 (by simp; omega) hne; simp only [ValAt, Nat.zero_add] at hv2; obtain ⟨q0, q1, q2, q3⟩ := hv2; have hs2 := hx2.grown.size; simp at hs2; replace hs2 : w.heap.size < w2.heap.size := by omega) | (refine app_bytes rfl (.tmp 19) (.tmp 23) rfl rfl (ho2.alloc _) rfl (Sl.new1 _ _ _ (UInt8.ofNat n.toNat) ?_) ?_ ?_ ?_; (· rw [UInt8.toNat_ofNat']; omega); (· simp; omega); (· simp; omega); intro v3 w3 ho3 hx3))
      go_ret
      exact ⟨_, rfl, by simpa [enc0] using ho3, (((hxw.alloc _).trans hx2).alloc _).trans hx3⟩
    · obtain rfl : k = 2 := h
      go_wp2_with (first | (refine app_bytes rfl (.tmp 9) (.tmp 13) rfl rfl (howx.alloc _) rfl (Sl.new1 _ _ _ 2 rfl) ?_ ?_ ?_; (· simp; omega); (· simp; omega); intro v2 w2 ho2 hx2; have hv2 := (hv.below ((Below.refl _ _).alloc (Nat.le_refl _) _) hlt).ext hx2 (by simp; omega) hne; simp only [ValAt, Nat.zero_add] at hv2; obtain ⟨q0, q1, q2, q3⟩ := hv2; have hs2 := hx2.grown.size; simp at hs2; replace hs2 : w.heap.size < w2.heap.size := by omega) | (go_at_call 47; refine (number_any _ B _ _ _ ?_ ho2 ?_).mono ?_; (· omega); (· simp; omega); rintro e w3 ⟨v3, rfl, ho3, hx3⟩))
      go_ret
      exact ⟨_, rfl, by simpa [enc0] using ho3, ((hxw.alloc _).trans hx2).trans hx3⟩
    · obtain rfl : k = 3 := h
      replace h1 : 0 ≤ sc := h1
      replace h2 : sc ≤ 6 := h2
      go_wp2_with (refine app_bytes rfl (.tmp 9) (.tmp 13) rfl rfl (howx.alloc _) rfl (Sl.new1 _ _ _ 3 rfl) ?_ ?_ ?_; (· simp; omega); (· simp; omega); intro v2 w2 ho2 hx2; have hv2 := (hv.below ((Below.refl _ _).alloc (Nat.le_refl _) _) hlt).ext hx2 (by simp; omega) hne; simp only [ValAt, Nat.zero_add] at hv2; obtain ⟨q0, q1, q2, q3⟩ := hv2; have hs2 := hx2.grown.size; simp at hs2; replace hs2 : w.heap.size < w2.heap.size := by omega)
      have hne2 := hx2.ne (b := w.heap.size) (by simp; omega) hne
      go_region_held3 (fun w' => w'.cell? ⟨w.heap.size, 1, none⟩ = some (.int .i64 n) ∧ w'.cell? ⟨w.heap.size, 2, none⟩ = some (.int .i64 sc))
        (first | go_keep | exact ⟨r1, r2⟩)
        ((first
          | (refine step_app_bytes (by rfl) (.tmp 33) (.tmp 37) (by rfl) (B := B) (l := l ++ [3]) (by rfl) ((ho2.alloc _).below (Below.refl _ _).drew (Nat.le_refl _)) (by rfl) (l' := [UInt8.ofNat sc.toNat]) (Sl.drew (Sl.new1 _ _ _ _ ?_)) ?_ ?_ ?_
             · rw [UInt8.toNat_ofNat', IntKind.wrap_u8]; omega
             · simp; omega
             · simp; omega
             intro v3 w3 ho3 hx3
             have hs3 := hx3.grown.size
             simp at hs3
             have r1 : w3.cell? ⟨w.heap.size, 1, none⟩ = some (.int .i64 n) := hx3.cell (by simp; omega) hne2 ((World.cell?_alloc_lt w2 _ _ hs2).trans q1)
             have r2 : w3.cell? ⟨w.heap.size, 2, none⟩ = some (.int .i64 sc) := hx3.cell (by simp; omega) hne2 ((World.cell?_alloc_lt w2 _ _ hs2).trans q2)
             have hne3 := hx3.ne (b := w.heap.size) (by simp; omega) hne2)
          | (go_at_call 47; refine (number_any _ B _ _ _ ?_ ho3 ?_).mono ?_; (· omega); (· simp; omega); rintro e w4 ⟨v4, rfl, ho4, hx4⟩; replace r1 := hx4.cell (by omega) hne3 r1; replace r2 := hx4.cell (by omega) hne3 r2)))
      go_wp2_with fail
      go_ret
      exact ⟨_, rfl, by simpa [enc0] using ho4, (((((hxw.alloc _).trans hx2).alloc _).after (Below.refl _ _).drew).trans hx3).trans hx4⟩
    · obtain rfl : k = 4 := h
      replace h1 : s.length ≤ 200 := h1
      go_wp2_with (first | (refine app_bytes rfl (.tmp 9) (.tmp 13) rfl rfl (howx.alloc _) rfl (Sl.new1 _ _ _ 4 rfl) ?_ ?_ ?_; (· simp; omega); (· simp; omega); intro v2 w2 ho2 hx2; have hv2 := (hv.below ((Below.refl _ _).alloc (Nat.le_refl _) _) hlt).ext hx2 (by simp; omega) hne; simp only [ValAt, Nat.zero_add] at hv2; obtain ⟨q0, q1, q2, q3⟩ := hv2; have hs2 := hx2.grown.size; simp at hs2; replace hs2 : w.heap.size < w2.heap.size := by omega) | (go_at_call 48; refine (text_any _ B _ _ _ ?_ ho2 ?_ ?_).mono ?_; (· omega); (· simp; omega); (· omega); rintro e w3 ⟨v3, rfl, ho3, hx3⟩))
      go_ret
      exact ⟨_, rfl, by simpa [enc0] using ho3, ((hxw.alloc _).trans hx2).trans hx3⟩
    · obtain rfl : k = 5 := h
      replace h1 : s.length ≤ 200 := h1
      go_wp2_with (first | (refine app_bytes rfl (.tmp 9) (.tmp 13) rfl rfl (howx.alloc _) rfl (Sl.new1 _ _ _ 5 rfl) ?_ ?_ ?_; (· simp; omega); (· simp; omega); intro v2 w2 ho2 hx2; have hv2 := (hv.below ((Below.refl _ _).alloc (Nat.le_refl _) _) hlt).ext hx2 (by simp; omega) hne; simp only [ValAt, Nat.zero_add] at hv2; obtain ⟨q0, q1, q2, q3⟩ := hv2; have hs2 := hx2.grown.size; simp at hs2; replace hs2 : w.heap.size < w2.heap.size := by omega) | (go_at_call 48; refine (text_any _ B _ _ _ ?_ ho2 ?_ ?_).mono ?_; (· omega); (· simp; omega); (· omega); rintro e w3 ⟨v3, rfl, ho3, hx3⟩))
      go_ret
      exact ⟨_, rfl, by simpa [enc0] using ho3, ((hxw.alloc _).trans hx2).trans hx3⟩

theorem enc_length (x : Val) : (enc x).length ≤ 500 := by
  unfold enc
  have hcs := right_cases (right_plain x)
  generalize plain x = y at *
  have he := escTo_length y.s
  have h8 : (be8 y.n).length = 8 := by simp [be8, beTo_length]
  unfold enc0
  rcases hcs with h | ⟨h, _, _⟩ | h | ⟨h, _, _⟩ | ⟨h, _⟩ | ⟨h, _⟩ <;> simp [h, h8] <;> omega
theorem encs_append (a b : List Val) : encs (a ++ b) = encs a ++ encs b := by simp [encs]
theorem encs_length (l : List Val) : (encs l).length ≤ 500 * l.length := by
  induction l with
  | nil => simp [encs]
  | cons a l ih => rw [show encs (a :: l) = enc a ++ encs l from rfl, List.length_append, List.length_cons]; have := enc_length a; omega
theorem encs_succ {l : List Val} {k : Nat} {x : Val} (h : l[k]? = some x) : encs (l.take (k + 1)) = encs (l.take k) ++ enc x := by
  have hk : k < l.length := by
    rcases Nat.lt_or_ge k l.length with h' | h'
    · exact h'
    · rw [List.getElem?_eq_none h'] at h; cases h
  have hd : l[k] = x := by rw [List.getElem?_eq_getElem hk] at h; injection h
  rw [List.take_succ_eq_append_getElem hk, encs_append, hd]
  simp [encs]

/-- a call that hands back new bytes -/
def NewBytes (w : World) (l : List UInt8) : Ending → World → Prop := fun e w' => ∃ A c, e = .returned (.slice A l.length c) ∧ OwnB w' w.heap.size (.slice A l.length c) l ∧ Sl w' 1 A l.length c (bvs l) ∧ Below w.heap.size w w'

set_option maxHeartbeats 400000 in
theorem keysPut_any (w : World) (A : Option Addr) (n c : Nat) (l : List Val) (hs : Sl w 4 A n c (vcs l)) (hn : n ≤ 100000) (hT : Tabs w) :
    Calls Tryd.prog 12 #[.slice A n c] w (NewBytes w (encs l)) := by
  have hlen := hs.vlen
  subst hlen
  go_enter Tryd.func12, Tryd.ntmps12
  go_wp2_with fail
  go_loopw [3, 8] (fun v1 i wr => ∃ k : Nat, k ≤ l.length ∧ i = .int .i64 (k : Int) ∧ OwnB wr w.heap.size v1 (encs (l.take k)) ∧ Below w.heap.size w wr) (fun _ i _ => l.length - (intOf i).toNat)
  case atStart => exact ⟨0, by omega, rfl, OwnB.nil _ _, Below.refl _ _⟩
  case round =>
    obtain ⟨k, hk, rfl, ho, hb⟩ := hrel
    have hel := encs_length (l.take k)
    rw [List.length_take] at hel
    by_cases hlt : k < l.length
    · obtain ⟨b, o, x, rfl, hblt, hx, q0, q1, q2, q3⟩ := (hs.below hb (Nat.le_refl _)).val hlt
      have hlt' : (k : Int) < (l.length : Int) := by omega
      have hsucc := hide (encs_succ hx)
      have hTr := hT.below hb
      have hbs := hb.size
      clear hs hx hT
      go_wp2_with (go_at_call 31; refine (put_any _ w.heap.size _ _ x ?_ (ho.alloc _) ?_ ?_).mono ?_; (· simp; omega); (· omega); (· exact hTr.below ((Below.refl _ _).alloc (Nat.le_refl _) _)); rintro e w3 ⟨v3, rfl, ho3, hx3⟩)
      go_roundw
      case rel => exact ⟨k + 1, by omega, by go_num, by rw [unhide hsucc]; exact ho3, hb.trans (Below.trans ((Below.refl _ _).alloc (by omega) _) (hx3.below (by simp; omega) (own_lies ho)))⟩
      case measure => exact (by first | (simp [intOf]; done) | (simp [intOf]; omega))
    · obtain rfl : k = l.length := by omega
      have ht : l.take l.length = l := List.take_of_length_le (Nat.le_refl _)
      rw [ht] at ho
      clear ht hs hT
      go_wp2_with fail
      go_ret
      obtain ⟨A', c', hv, hs'⟩ := ho.form
      subst hv
      exact ⟨A', c', rfl, ho, hs', hb⟩
end Go.Proofs.YtclhnfalebiieaaDoor
