/-
  The law KeysJoin: its walk.
-/
import Derived.Test.YtiglfphjacghbaaDoorLawCode
import Derived.Test.YtiglfphjacghbaaDoorKeysG
import Derived.Test.YtiglfphjacghbaaDoorPlain
import Derived.Test.YtiglfphjacghbaaDoorConv
import Derived.Deep.DeepCutAuto
set_option linter.unusedVariables false
set_option linter.unusedSimpArgs false
namespace Go.Proofs.YtiglfphjacghbaaDoor
open Go.RowKit

theorem longB_not {l : List Val} (h : longB l = false) : l.length ≤ 20 ∧ ∀ x ∈ l, x.s.length ≤ 500 := by
  simp only [longB, Bool.or_eq_false_iff, List.any_eq_false, decide_eq_true_eq, decide_eq_false_iff_not] at h
  exact ⟨by omega, fun x hx => by have := h.2 x hx; omega⟩

theorem OwnV.empty (w : World) (B : Nat) (h : B ≤ w.heap.size) : OwnV (w.alloc (.cells #[] 29)) B (.slice (some ⟨w.heap.size, 0, none⟩) 0 0) [] :=
  ⟨rfl, .inr ⟨w.heap.size, 0, #[], rfl, h, heap_alloc_new w _, Nat.le_refl _, by simp [maxLen], rfl, rfl⟩⟩
theorem drop_at {α : Type} {l : List α} {k : Nat} {x : α} (h : l[k]? = some x) : l.drop k = x :: l.drop (k + 1) := by
  obtain ⟨hk, hx⟩ := List.getElem?_eq_some_iff.1 h
  rw [List.drop_eq_getElem_cons hk, hx]
theorem Loc.drew {w : World} {g : Nat} {x : Val} (h : Loc w g x) : Loc w.drew g x := h
theorem OwnB.drew {w : World} {B : Nat} {v : Value} {l : List UInt8} (h : OwnB w B v l) : OwnB w.drew B v l := h.below (Below.refl _ _).drew (Nat.le_refl _)
theorem Sl.belowOf {u w : World} {size : Nat} {A : Option Addr} {n c : Nat} {xs : List Value} (h : Sl u size A n c xs) (hb : Below u.heap.size u w) : Sl w size A n c xs := h.mono hb

set_option maxRecDepth 100000 in
set_option maxHeartbeats 2000000 in
theorem keysJoinLaw (w : World) (A1 A2 : Option Addr) (n1 c1 n2 c2 : Nat) (a b : List Val) (hs1 : Sl w 4 A1 n1 c1 (vcs a)) (hs2 : Sl w 4 A2 n2 c2 (vcs b)) (h64 : ∀ x ∈ a ++ b, x.in64) (hT : Tabs w) :
    Calls Tryd.prog 7 #[.slice A1 n1 c1, .slice A2 n2 c2] w (Ret w (.bool true)) := by
  have Hf := hide (fun W h => first_any W h)
  have Hl1 := hide (fun W (h : Below w.heap.size w W) => long_any W A1 n1 c1 a (hs1.mono h))
  have Hl2 := hide (fun W (h : Below w.heap.size w W) => long_any W A2 n2 c2 b (hs2.mono h))
  rcases hb1 : longB a with _ | _
  rotate_left
  · rw [hb1] at Hl1
    clear hs1 hs2 hb1
    go_enter Tryd.func7, Tryd.ntmps7
    go_wp2_with (first
      | (go_at_call 8; refine (unhide Hf _ hT).mono ?_; rintro e w1 ⟨rfl, hc1⟩)
      | (go_at_call 9; refine (unhide Hl1 _ hc1).mono ?_; rintro e w2 ⟨rfl, hc2⟩; have hb2 : Below w.heap.size w w2 := below_step hc2 hc1 hc1.size))
    go_ret
    exact ⟨rfl, hb2⟩
  rcases hb2 : longB b with _ | _
  rotate_left
  · rw [hb1] at Hl1
    rw [hb2] at Hl2
    clear hs1 hs2 hb1 hb2
    go_enter Tryd.func7, Tryd.ntmps7
    go_wp2_with (first
      | (go_at_call 8; refine (unhide Hf _ hT).mono ?_; rintro e w1 ⟨rfl, hc1⟩)
      | (go_at_call 9; (with_reducible refine (unhide Hl1 _ hc1).mono ?_); rintro e w2 ⟨rfl, hc2⟩; have hb2 : Below w.heap.size w w2 := below_step hc2 hc1 hc1.size)
      | (go_at_call 9; (with_reducible refine (unhide Hl2 _ hb2).mono ?_); rintro e w3 ⟨rfl, hc3⟩; have hb3 : Below w.heap.size w w3 := below_step hc3 hb2 hb2.size))
    go_ret
    exact ⟨rfl, hb3⟩
  have la := longB_not hb1
  have lb := longB_not hb2
  rw [hb1] at Hl1
  rw [hb2] at Hl2
  clear hb1 hb2
  have hn1 := hs1.vlen
  have hn2 := hs2.vlen
  have Hs1 := hide hs1
  have Hs2 := hide hs2
  have Hlen1 := hide hn1
  have Hlen2 := hide hn2
  have q1 := la.1
  have q2 := lb.1
  have Hla := hide la
  have Hlb := hide lb
  have H64 := hide h64
  obtain ⟨l, hl⟩ : ∃ l, l = a ++ b := ⟨_, rfl⟩
  have hll : l.length ≤ 40 := by rw [hl, List.length_append]; omega
  have hle := encs_append a b
  rw [← hl] at hle
  have la' := encs_length a
  have lb' := encs_length b
  obtain ⟨ea, hea⟩ : ∃ e, encs a = e := ⟨_, rfl⟩
  obtain ⟨eb, heb⟩ : ∃ e, encs b = e := ⟨_, rfl⟩
  have hp1 := fun W (h : Below w.heap.size w W) => keysPut_any W A1 n1 c1 a (hs1.mono h) (by omega) (hT.below h)
  have hp2 := fun W (h : Below w.heap.size w W) => keysPut_any W A2 n2 c2 b (hs2.mono h) (by omega) (hT.below h)
  rw [hea] at hp1
  rw [heb] at hp2
  have Hp1 := hide hp1
  have Hp2 := hide hp2
  rw [hea, heb] at hle
  rw [hea] at la'
  rw [heb] at lb'
  have qa : (ea.length : Int) ≤ 8388608 := by omega
  have qb : (eb.length : Int) ≤ 8388608 := by omega
  have Hea := hide hea
  have Heb := hide heb
  have HL := hide hl
  have Hle := hide hle
  clear hs1 hs2 la lb h64 hp1 hp2 hn1 hn2 hea heb hl hle la' lb'
  go_enter Tryd.func7, Tryd.ntmps7
  go_upto_region 7 with (first
    | (go_at_call 8; refine (unhide Hf _ hT).mono ?_; rintro e w1 ⟨rfl, hc1⟩; have hz1 := hc1.size)
    | (go_at_call 9; (with_reducible refine (unhide Hl1 _ hc1).mono ?_); rintro e w2 ⟨rfl, hc2⟩; have hb2 : Below w.heap.size w w2 := below_step hc2 hc1 hc1.size; have hz2 := hb2.size)
    | (go_at_call 9; (with_reducible refine (unhide Hl2 _ hb2).mono ?_); rintro e w3 ⟨rfl, hc3⟩; have hb3 : Below w.heap.size w w3 := below_step hc3 hb2 hb2.size; have hz3 := hb3.size)
    | (refine app_vals rfl (.tmp 23) (.tmp 24) rfl rfl (B := w.heap.size) (l := []) (l' := a) (OwnV.empty _ _ (by omega)) rfl ((unhide Hs1).mono (by repeat (first | with_reducible exact Below.refl _ _ | with_reducible assumption | ((with_reducible refine Below.alloc ?_ ?_ _); rotate_left; (first | exact Nat.le_refl _ | (simp; done) | (simp; omega) | omega)) | ((with_reducible refine Below.setCell ?_ ?_ _); rotate_left; (first | exact Nat.le_refl _ | (simp; done) | (simp; omega) | omega)) | (with_reducible refine Below.drew ?_) | (with_reducible refine bdrewN ?_ _)))) ?_ ?_ ?_; (· simp; omega); (· simp; omega); intro v4 w4 ho4 hx4; have hb4 : Below w.heap.size w w4 := (show Below w.heap.size w (w3.alloc _) from (by repeat (first | with_reducible exact Below.refl _ _ | with_reducible assumption | ((with_reducible refine Below.alloc ?_ ?_ _); rotate_left; (first | exact Nat.le_refl _ | (simp; done) | (simp; omega) | omega)) | ((with_reducible refine Below.setCell ?_ ?_ _); rotate_left; (first | exact Nat.le_refl _ | (simp; done) | (simp; omega) | omega)) | (with_reducible refine Below.drew ?_) | (with_reducible refine bdrewN ?_ _)))).trans (hx4.below (by simp; omega) (fun k hk => by have h2 : some w3.heap.size = some k := hk; injection h2 with h2; omega)); have hz4 := hb4.size)
    | (refine app_vals rfl (.tmp 25) (.tmp 26) rfl rfl (B := w.heap.size) (l := [] ++ a) (l' := b) ho4 rfl ((unhide Hs2).mono hb4) ?_ ?_ ?_; (· simp; omega); (· omega); intro v5 w5 ho5 hx5; have hb5 : Below w.heap.size w w5 := hb4.trans (hx5.below (by omega) (fun k hk => (World.ownsRow.lt ho4 k hk).1)); have hz5 := hb5.size; rw [List.nil_append, ← unhide HL] at ho5; obtain ⟨A5, c5, hv5, hs5⟩ := ho5.form; clear ho5 ho4; subst hv5)
    | (go_at_call 10; refine (keysPut_any _ _ _ _ l hs5 (by omega) (hT.below hb5)).mono ?_; rintro e w6 ⟨A6, c6, rfl, ho6, hs6, hb⟩; have hb6 : Below w.heap.size w w6 := below_step hb hb5 hz5; have hz6 := hb6.size; have hs5' := hs5.mono hb; clear hb ho6))
  have HC6 := hide hs6.conv
  have Hs6 := hide hs6
  have Hs5 := hide hs5'
  have hzz := hide (rfl : w = w)
  clear hs6 hs5 hs5' hx4 hx5 hb2 hb3 hb4 hc1 hc2 hc3
  go_cut [39] (fun s wx => s = .bool false ∧ Below w6.heap.size w6 wx)
  case first =>
    have hcv6 := unhide HC6 _ (Below.refl _ _).drew
    go_region_with ((first
        | (go_at_call 10; (with_reducible refine (unhide Hp1 _ (below_step (Below.refl _ _).drew hb6 hz6)).mono ?_); rintro e w7 ⟨A7, c7, rfl, ho7, hs7, hb⟩; have hb7 : Below w6.heap.size w6 w7 := below_step hb (by repeat (first | with_reducible exact Below.refl _ _ | with_reducible assumption | ((with_reducible refine Below.alloc ?_ ?_ _); rotate_left; (first | exact Nat.le_refl _ | (simp; done) | (simp; omega) | omega)) | ((with_reducible refine Below.setCell ?_ ?_ _); rotate_left; (first | exact Nat.le_refl _ | (simp; done) | (simp; omega) | omega)) | (with_reducible refine Below.drew ?_) | (with_reducible refine bdrewN ?_ _))) (by first | exact Nat.le_refl _ | (simp; done) | (simp; omega) | omega); have hcv7 := hs7.conv w7 (Below.refl _ _); have hcv6' := unhide HC6 _ hb7; have hz7 := hb7.size; clear hb ho7)
        | (go_at_call 10; (with_reducible refine (unhide Hp2 _ (below_step hb7 hb6 hz6)).mono ?_); rintro e w8 ⟨A8, c8, rfl, ho8, hs8, hb⟩; have hb8 : Below w6.heap.size w6 w8 := below_step hb hb7 hz7; have hcv8 := hs8.conv w8 (Below.refl _ _); have hcv7' := hs7.conv w8 hb; have hcv6'' := unhide HC6 _ hb8; clear hb ho8)))
    all_goals (go_wp2_with fail; go_meet; refine ⟨?_, hb8⟩; rw [unhide Hle]; simp [ByteArray.mk_append_mk])
  case rest =>
    obtain ⟨rfl, hbc⟩ := hcut
    have hbw : Below w.heap.size w wc := below_step hbc hb6 hz6
    have hzw := hbw.size
    have Hs5c := hide ((unhide Hs5).mono hbc)
    have Hs6c := hide ((unhide Hs6).mono hbc)
    clear hbc HC6 Hs5 Hs6 hb6 hz6 hzz
    go_wp2_with fail
    go_loopw [6, 42] (fun v i wr => ∃ (k : Nat) (A : Option Addr) (c : Nat) (e : List UInt8), k ≤ l.length ∧ i = .int .i64 (k : Int) ∧ v = .slice A e.length c ∧ Sl wr 1 A e.length c (bvs e) ∧ Hid (encs (l.drop k) = e) ∧ Below wc.heap.size wc wr) (fun _ i _ => l.length - (intOf i).toNat)
    case atStart => exact ⟨0, A6, c6, encs l, by omega, rfl, rfl, unhide Hs6c, hide rfl, Below.refl _ _⟩
    case round =>
      obtain ⟨k, A, c, e, hk, rfl, rfl, hse, he, hbr⟩ := hrel
      have hbr' : Below w.heap.size w wr := below_step hbr hbw hzw
      have hzr := hbr'.size
      have hTr := hT.below hbr'
      by_cases hlt : k < l.length
      · obtain ⟨b1, o1, x, rfl, hblt, hx, q0, q1, q2, q3⟩ := ((unhide Hs5c).mono hbr).val hlt
        have hlt' : (k : Int) < (l.length : Int) := by omega
        obtain ⟨r, hr⟩ : ∃ r, encs (l.drop (k + 1)) = r := ⟨_, rfl⟩
        have hel : e.length ≤ 500 * l.length := by
          have h1 := encs_length (l.drop k)
          rw [unhide he, List.length_drop] at h1
          omega
        have hee : e = enc x ++ r := by rw [← unhide he, drop_at hx, encs_cons, hr]
        have hxm : x ∈ a ++ b := by rw [← unhide HL]; exact List.mem_of_getElem? hx
        have hnx := nextV_enc (unhide H64 x hxm) r
        rw [← hee] at hnx
        have hc := fun W (hW : Below wr.heap.size wr W) => keysNext_any W A e.length c e (hse.mono hW) (by omega) (hTr.below hW)
        rw [hnx] at hc
        have hxs : x.s.length ≤ 500 := by
          rcases List.mem_append.1 hxm with h | h
          · exact (unhide Hla).2 x h
          · exact (unhide Hlb).2 x h
        have hp := fun W => plain_any x W (by omega)
        obtain ⟨y, hy⟩ : ∃ y, plain x = y := ⟨_, rfl⟩
        rw [hy] at hc
        simp only [hy] at hp
        have Hc := hide hc
        have Hp := hide hp
        have Hr := hide hr
        clear hc hp hy hxs hnx hxm hee hel hr he hx hTr hse
        go_wp2_with (first
          | (go_at_call 16; refine (unhide Hc _ (by repeat (first | with_reducible exact Below.refl _ _ | with_reducible assumption | ((with_reducible refine Below.alloc ?_ ?_ _); rotate_left; (first | exact Nat.le_refl _ | (simp; done) | (simp; omega) | omega)) | ((with_reducible refine Below.setCell ?_ ?_ _); rotate_left; (first | exact Nat.le_refl _ | (simp; done) | (simp; omega) | omega)) | (with_reducible refine Below.drew ?_) | (with_reducible refine bdrewN ?_ _)))).mono ?_; rintro ev w1 ⟨hb1, A1', c1', rfl, ho1⟩; have hr1 : Below wr.heap.size wr w1 := below_step hb1 (by repeat (first | with_reducible exact Below.refl _ _ | with_reducible assumption | ((with_reducible refine Below.alloc ?_ ?_ _); rotate_left; (first | exact Nat.le_refl _ | (simp; done) | (simp; omega) | omega)) | ((with_reducible refine Below.setCell ?_ ?_ _); rotate_left; (first | exact Nat.le_refl _ | (simp; done) | (simp; omega) | omega)) | (with_reducible refine Below.drew ?_) | (with_reducible refine bdrewN ?_ _))) (by first | exact Nat.le_refl _ | (simp; done) | (simp; omega) | omega); have hz1 := hr1.size; have L8 : Loc w1 wr.heap.size x := (Loc.new wr x).below hb1 (by simp); have hz1' := hb1.size; clear hb1))
        have L8a := L8.alloc (.cells #[.int .i64 y.kind, .int .i64 y.n, .int .i64 y.scale, .string ⟨y.s.toArray⟩] 29)
        have L9a := Loc.new w1 y
        obtain ⟨m0, m1, m2, m3, mf, ml⟩ := L8a.facts
        obtain ⟨n0, n1, n2, n3, nf, nl⟩ := L9a.facts
        go_region_held3 (fun w' => (w'.cell? ⟨wr.heap.size, 0, none⟩ = some (.int .i64 x.kind) ∧ w'.cell? ⟨wr.heap.size, 1, none⟩ = some (.int .i64 x.n) ∧ w'.cell? ⟨wr.heap.size, 2, none⟩ = some (.int .i64 x.scale) ∧ w'.cell? ⟨wr.heap.size, 3, none⟩ = some (.string ⟨x.s.toArray⟩)) ∧
            (w'.cell? ⟨w1.heap.size, 0, none⟩ = some (.int .i64 y.kind) ∧ w'.cell? ⟨w1.heap.size, 1, none⟩ = some (.int .i64 y.n) ∧ w'.cell? ⟨w1.heap.size, 2, none⟩ = some (.int .i64 y.scale) ∧ w'.cell? ⟨w1.heap.size, 3, none⟩ = some (.string ⟨y.s.toArray⟩)))
          (first | with_reducible exact ⟨⟨p0, p1, p2, p3⟩, r0, r1, r2, r3⟩ | exact ⟨⟨m0, m1, m2, m3⟩, n0, n1, n2, n3⟩)
          ((first | (go_at_call 11; refine (unhide Hp _).mono ?_; rintro ev w2 ⟨rfl, hb2⟩; obtain ⟨p0, p1, p2, p3, pf, pl⟩ := (L8a.drew.below hb2 ml).facts; obtain ⟨r0, r1, r2, r3, rf, rl⟩ := (L9a.drew.below hb2 nl).facts)))
        go_wp2_with fail
        go_roundw
        case rel =>
          have hb3 : Below wr.heap.size wr w2 := below_step hb2 (show Below wr.heap.size wr (World.alloc w1 _).drew from (by repeat (first | with_reducible exact Below.refl _ _ | with_reducible assumption | ((with_reducible refine Below.alloc ?_ ?_ _); rotate_left; (first | exact Nat.le_refl _ | (simp; done) | (simp; omega) | omega)) | ((with_reducible refine Below.setCell ?_ ?_ _); rotate_left; (first | exact Nat.le_refl _ | (simp; done) | (simp; omega) | omega)) | (with_reducible refine Below.drew ?_) | (with_reducible refine bdrewN ?_ _)))) (by simp; omega)
          exact ⟨k + 1, A1', c1', r, by omega, by go_num, rfl, ((OwnB.alloc ho1 _).drew.below hb2 (Nat.le_refl _)).sl, unhide Hr ▸ hide rfl, hbr.trans (hb3.mono hbr.size)⟩
        case measure => exact (by first | (simp [intOf]; done) | (simp [intOf]; omega))
      · obtain rfl : k = l.length := by omega
        have he0 : e = [] := by rw [← unhide he, List.drop_of_length_le (Nat.le_refl _)]; rfl
        subst he0
        have hc := fun W (hW : Below wr.heap.size wr W) => keysNext_any W A 0 c [] (hse.mono hW) (by omega) (hTr.below hW)
        rw [nextV_nil] at hc
        have Hc := hide hc
        clear hc hse hTr he
        go_wp2_with (go_at_call 16; refine (unhide Hc _ (by repeat (first | with_reducible exact Below.refl _ _ | with_reducible assumption | ((with_reducible refine Below.alloc ?_ ?_ _); rotate_left; (first | exact Nat.le_refl _ | (simp; done) | (simp; omega) | omega)) | ((with_reducible refine Below.setCell ?_ ?_ _); rotate_left; (first | exact Nat.le_refl _ | (simp; done) | (simp; omega) | omega)) | (with_reducible refine Below.drew ?_) | (with_reducible refine bdrewN ?_ _)))).mono ?_; rintro ev w1 ⟨hb1, rfl⟩; have hr1 : Below wr.heap.size wr w1 := below_step hb1 (by repeat (first | with_reducible exact Below.refl _ _ | with_reducible assumption | ((with_reducible refine Below.alloc ?_ ?_ _); rotate_left; (first | exact Nat.le_refl _ | (simp; done) | (simp; omega) | omega)) | ((with_reducible refine Below.setCell ?_ ?_ _); rotate_left; (first | exact Nat.le_refl _ | (simp; done) | (simp; omega) | omega)) | (with_reducible refine Below.drew ?_) | (with_reducible refine bdrewN ?_ _))) (by first | exact Nat.le_refl _ | (simp; done) | (simp; omega) | omega); have hz1 := hr1.size; clear hb1)
        go_ret
        exact ⟨rfl, below_step hr1 hbr' hzr |>.alloc (by omega) _⟩
end Go.Proofs.YtiglfphjacghbaaDoor
