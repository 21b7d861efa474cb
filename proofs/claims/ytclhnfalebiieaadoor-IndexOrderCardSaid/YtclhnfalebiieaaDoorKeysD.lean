/-
  Layer 5: the next value of a key, all values of a key.
-/
import Derived.Test.YtclhnfalebiieaaDoorKeysC
set_option linter.unusedVariables false
set_option linter.unusedSimpArgs false
namespace Go.Proofs.YtclhnfalebiieaaDoor
open Go.RowKit

def nextS : List UInt8 → Option (Val × List UInt8)
  | [] => none
  | t :: r =>
    if t = 0 then some (⟨0, 0, 0, []⟩, r)
    else if t = 1 then (match r with | [] => none | h :: r' => some (⟨1, h.toNat, 0, []⟩, r'))
    else if t = 2 then (if r.length < 8 then none else some (⟨2, (deTo r 8 : Int) - 9223372036854775808, 0, []⟩, r.drop 8))
    else if t = 3 then (match r with | [] => none | h :: r' => if r'.length < 8 then none else some (⟨3, (deTo r' 8 : Int) - 9223372036854775808, h.toNat, []⟩, r'.drop 8))
    else if t = 4 ∨ t = 5 then (untext r).map (fun p => (⟨t.toNat, 0, 0, p.1⟩, p.2))
    else none

def Nexted (u w : World) (r : Option (Val × List UInt8)) : Ending → World → Prop := fun e w' => Below w.heap.size w w' ∧ match r with
  | none => ∃ (x : Val) (A : Option Addr) (n c : Nat), e = .returned (.tuple #[.agg #[.int .i64 x.kind, .int .i64 x.n, .int .i64 x.scale, .string ⟨x.s.toArray⟩], .slice A n c, .bool false])
  | some (x, rest) => ∃ A c, e = .returned (.tuple #[.agg #[.int .i64 x.kind, .int .i64 x.n, .int .i64 x.scale, .string ⟨x.s.toArray⟩], .slice A rest.length c, .bool true]) ∧ Sl u 1 A rest.length c (bvs rest)

theorem untext_len : ∀ (k : Nat) (l : List UInt8), l.length ≤ k → ∀ t r, untext l = some (t, r) → r.length + t.length + 2 ≤ l.length := by
  intro k
  induction k with
  | zero =>
    intro l hl t r h
    have : l = [] := List.eq_nil_of_length_eq_zero (by omega)
    subst this
    simp [untext] at h
  | succ k ih =>
    intro l hl t r h
    match l, hl, h with
    | [], _, h => simp [untext] at h
    | [c], _, h => simp [untext] at h
    | c :: d :: l, hl, h =>
      simp only [List.length_cons] at hl ⊢
      rw [untext] at h
      split at h
      · split at h
        · obtain ⟨p, hp, he⟩ := Option.map_eq_some_iff.1 h
          have := ih l (by omega) _ _ hp
          simp only [Prod.mk.injEq] at he
          obtain ⟨rfl, rfl⟩ := he
          simp only [List.length_cons]
          omega
        · split at h
          · simp only [Option.some.injEq, Prod.mk.injEq] at h
            obtain ⟨rfl, rfl⟩ := h
            simp
          · cases h
      · obtain ⟨p, hp, he⟩ := Option.map_eq_some_iff.1 h
        have := ih (d :: l) (by simpa using hl) _ _ hp
        simp only [Prod.mk.injEq] at he
        obtain ⟨rfl, rfl⟩ := he
        simp only [List.length_cons] at this ⊢
        omega
theorem nextS_len {l : List UInt8} {x : Val} {r : List UInt8} (h : nextS l = some (x, r)) : r.length < l.length := by
  match l, h with
  | [], h => simp [nextS] at h
  | t :: r0, h =>
    simp only [List.length_cons]
    unfold nextS at h
    dsimp only at h
    split at h
    · simp only [Option.some.injEq, Prod.mk.injEq] at h
      rw [← h.2]; omega
    split at h
    · split at h
      · cases h
      · simp only [Option.some.injEq, Prod.mk.injEq] at h
        rw [← h.2]; simp only [List.length_cons]; omega
    split at h
    · split at h
      · cases h
      · simp only [Option.some.injEq, Prod.mk.injEq] at h
        rw [← h.2, List.length_drop]; omega
    split at h
    · split at h
      · cases h
      · split at h
        · cases h
        · simp only [Option.some.injEq, Prod.mk.injEq] at h
          rw [← h.2, List.length_drop]; simp only [List.length_cons]; omega
    split at h
    · obtain ⟨p, hp, he⟩ := Option.map_eq_some_iff.1 h
      have := untext_len _ _ (Nat.le_refl _) _ _ hp
      simp only [Prod.mk.injEq] at he
      rw [← he.2]; omega
    · cases h
theorem OwnB.setBelow {w : World} {B : Nat} {v : Value} {l : List UInt8} (h : OwnB w B v l) {a : Addr} (ha : a.block < B) (u : Value) : OwnB (w.setCell a u) B v l := ownsRow_setCell_below h ha u
theorem OwnB.sl {w : World} {B : Nat} {A : Option Addr} {n c : Nat} {l : List UInt8} (h : OwnB w B (.slice A n c) l) : Sl w 1 A n c (bvs l) := by
  obtain ⟨A', c', e, hs⟩ := h.form
  injection e with e1 e2 e3
  rw [e1, e2, e3]
  exact hs

/-- a struct variable of the call's own, known whole -/
def Loc (w : World) (g : Nat) (x : Val) : Prop := w.heap[g]? = some (.cells #[.int .i64 x.kind, .int .i64 x.n, .int .i64 x.scale, .string ⟨x.s.toArray⟩] 29 (0, 0))
theorem Loc.new (w : World) (x : Val) : Loc (w.alloc (.cells #[.int .i64 x.kind, .int .i64 x.n, .int .i64 x.scale, .string ⟨x.s.toArray⟩] 29)) w.heap.size x := heap_alloc_new w _
theorem Loc.lt {w : World} {g : Nat} {x : Val} (h : Loc w g x) : g < w.heap.size := lt_of_block h
theorem Loc.below {w w' : World} {g B : Nat} {x : Val} (h : Loc w g x) (hb : Below B w w') (hg : g < B) : Loc w' g x := (hb.block g hg).trans h
theorem Loc.alloc {w : World} {g : Nat} {x : Val} (h : Loc w g x) (o : Obj) : Loc (w.alloc o) g x := (Below.heap_alloc w o g h.lt).trans h
theorem Loc.facts {w : World} {g : Nat} {x : Val} (h : Loc w g x) : w.cell? ⟨g, 0, none⟩ = some (.int .i64 x.kind) ∧ w.cell? ⟨g, 1, none⟩ = some (.int .i64 x.n) ∧ w.cell? ⟨g, 2, none⟩ = some (.int .i64 x.scale) ∧ w.cell? ⟨g, 3, none⟩ = some (.string ⟨x.s.toArray⟩) ∧ (∀ o, w.frozen? ⟨g, o, none⟩ = false) ∧ g < w.heap.size := by
  have hl := h.lt
  unfold Loc at h
  refine ⟨?_, ?_, ?_, ?_, fun o => ?_, hl⟩ <;> simp [World.cell?, World.frozen?, h]
theorem Loc.store {w : World} {g : Nat} {x : Val} (h : Loc w g x) (y : Val) : Loc ((((w.setCell ⟨g, 0, none⟩ (.int .i64 y.kind)).setCell ⟨g, 1, none⟩ (.int .i64 y.n)).setCell ⟨g, 2, none⟩ (.int .i64 y.scale)).setCell ⟨g, 3, none⟩ (.string ⟨y.s.toArray⟩)) g y := by
  unfold Loc at h ⊢
  simp [World.setCell, Array.getElem?_modify, h]

theorem Loc.valAt {w : World} {g : Nat} {x : Val} (h : Loc w g x) : ValAt w g 0 x := by
  obtain ⟨h0, h1, h2, h3, _⟩ := h.facts
  simp only [ValAt, Nat.zero_add]
  exact ⟨h0, h1, h2, h3⟩
theorem cell_far {w : World} {p : Addr} {h o : Nat} {u : Value} (hne : h ≠ p.block) : (w.setCell p u).cell? ⟨h, o, none⟩ = w.cell? ⟨h, o, none⟩ :=
  World.cell?_of_block (a := ⟨h, o, none⟩) (Below.heap_setCell w p u h hne)
theorem cell_sets {w : World} {g h o : Nat} {a b c d : Value} (hne : h ≠ g) : ((((w.setCell ⟨g, 0, none⟩ a).setCell ⟨g, 1, none⟩ b).setCell ⟨g, 2, none⟩ c).setCell ⟨g, 3, none⟩ d).cell? ⟨h, o, none⟩ = w.cell? ⟨h, o, none⟩ := by
  rw [cell_far hne, cell_far hne, cell_far hne, cell_far hne]

theorem res_val_tt {fn : Func} {p q r : Tmp} (h : fn.results = #[.cell p 29, .tmp q, .tmp r]) {tmps : Array Value} {w : World} {g : Nat} {x : Val}
    (hp : tmps.getD p undef = .pointer (some ⟨g, 0, none⟩)) (hv : ValAt w g 0 x) : (results fn tmps).run Tryd.prog w = .ok (.tuple #[.agg #[.int .i64 x.kind, .int .i64 x.n, .int .i64 x.scale, .string ⟨x.s.toArray⟩], tmps.getD q undef, tmps.getD r undef]) w := by
  simp only [ValAt, Nat.zero_add] at hv
  obtain ⟨h0, h1, h2, h3⟩ := hv
  rw [Array.getD_eq_getD_getElem?] at hp
  simp [results, h, go_sem, hp, h0, h1, h2, h3]

theorem wrap_byte (t : UInt8) : IntKind.i64.wrap (t.toNat : Int) = t.toNat := by have := t.toNat_lt; rw [IntKind.wrap_i64]; omega

set_option maxRecDepth 100000 in
set_option maxHeartbeats 1000000 in
theorem next_any (u w : World) (A : Option Addr) (n c : Nat) (l : List UInt8) (hsu : Sl u 1 A n c (bvs l)) (hu : Below u.heap.size u w) (hn : n ≤ 100000000000) (h0 : 0 < n) :
    Calls Tryd.prog 33 #[.slice A n c] w (Nexted u w (nextS l)) := by
  have hs := hsu.mono hu
  obtain ⟨ANS, hA⟩ : ∃ r, nextS l = r := ⟨_, rfl⟩
  rw [hA]
  have hlen := hs.blen
  have hnc := hs.nc
  obtain ⟨m, hm⟩ : ∃ m, n - 1 = m := ⟨n - 1, rfl⟩
  obtain ⟨b, off, t, hA', hblt, ht, hcell⟩ := hs.byte h0
  subst hA'
  have hd := drop_cons ht
  simp only [List.drop_zero] at hd
  obtain ⟨A1, hA1⟩ : ∃ A1, (if c = 1 then some (⟨b, off, none⟩ : Addr) else some ⟨b, off + 1, none⟩) = A1 := ⟨_, rfl⟩
  have hr : Sl u 1 A1 m (c - 1) (bvs (l.drop 1)) := by
    have := hsu.cut (show 1 ≤ n by omega)
    rw [hm] at this
    rw [bvs_drop, ← hA1]
    simpa [Addr.add] using this
  have hrl : (l.drop 1).length = m := by rw [List.length_drop]; omega
  simp only [Nat.zero_add] at hd
  generalize l.drop 1 = r at hr hrl hd
  subst hd
  have hc1 : (1 : Int) ≤ (c : Int) := by omega
  have b0 : (0 : Int) ≤ (t.toNat : Int) := by omega
  have b1 : (t.toNat : Int) < 256 := by have := t.toNat_lt; omega
  simp only [Nat.add_zero] at hcell
  have HA := hide hA
  have HA1 := hide hA1
  have Hs := hide hr
  have HL := hide hrl
  have hbig : m ≤ 100000000000 := by omega
  have hn1 : (0 : Int) < (n : Int) := by omega
  have hn2 : (1 : Int) ≤ (n : Int) := by omega
  have hn3 : (n : Int) ≤ (c : Int) := by omega
  have HM := hide hm
  clear hsu hs hA hA1 hr hrl hlen ht hn hnc hm
  have HU : Hid (u.heap.size ≤ w.heap.size) := hide hu.size
  have Hu := hide hu
  clear hu
  go_enter Tryd.func33, Tryd.ntmps33
  go_wp2_with fail
  go_region_held3 (fun w' => w'.cell? ⟨b, off, none⟩ = some (.int .u8 (t.toNat : Int))) (go_keep) (fail)
  rw [unhide HA1, unhide HM, wrap_byte]
  clear hcell hn1 hn2 hn3 h0
  have hbw : Below w.heap.size w (w.alloc (.cells #[.int .i64 (t.toNat : Int), .int .i64 0, .int .i64 0, .string ⟨#[]⟩] 29)).drew := ((Below.refl _ _).alloc (Nat.le_refl _) _).drew
  by_cases t0 : t = 0
  · have hz : (t.toNat : Int) = 0 := by rw [t0]; rfl
    have hend : ANS = some (⟨0, 0, 0, []⟩, r) := by rw [← unhide HA]; simp [nextS, t0]
    subst hend
    clear t0 b0 b1
    go_wp2_with fail
    refine bodyPost_ret (res_val_tt (x := ⟨0, 0, 0, []⟩) rfl rfl (by simp [ValAt, go_sem])) rfl ⟨(by repeat (first | with_reducible exact Below.refl _ _ | with_reducible assumption | ((with_reducible refine Below.alloc ?_ ?_ _); rotate_left; (first | exact Nat.le_refl _ | (simp; done) | (simp; omega) | omega)) | ((with_reducible refine Below.setCell ?_ ?_ _); rotate_left; (first | exact Nat.le_refl _ | (simp; done) | (simp; omega) | omega)) | (with_reducible refine Below.drew ?_) | (with_reducible refine Go.RowKit.below_drewN ?_ _))), A1, c - 1, by rw [unhide HL]; rfl, ?_⟩
    rw [unhide HL]
    exact unhide Hs
  by_cases t1 : t = 1
  · have hz : (t.toNat : Int) = 1 := by rw [t1]; rfl
    clear t0 b0 b1
    rcases r with _ | ⟨d, r'⟩
    · have hend : ANS = none := by rw [← unhide HA]; simp [nextS, t1]
      subst hend
      have hm0 : ((m : Int) == 0) = true := by have := unhide HL; simp at this; subst this; rfl
      clear t1
      go_wp2_with fail
      exact bodyPost_ret (res_val_tt (x := ⟨1, 0, 0, []⟩) rfl rfl (by simp [ValAt, go_sem])) rfl ⟨(by repeat (first | with_reducible exact Below.refl _ _ | with_reducible assumption | ((with_reducible refine Below.alloc ?_ ?_ _); rotate_left; (first | exact Nat.le_refl _ | (simp; done) | (simp; omega) | omega)) | ((with_reducible refine Below.setCell ?_ ?_ _); rotate_left; (first | exact Nat.le_refl _ | (simp; done) | (simp; omega) | omega)) | (with_reducible refine Below.drew ?_) | (with_reducible refine Go.RowKit.below_drewN ?_ _))), ⟨1, 0, 0, []⟩, _, _, _, rfl⟩
    · have hend : ANS = some (⟨1, d.toNat, 0, []⟩, r') := by rw [← unhide HA]; simp [nextS, t1]
      subst hend
      have hml : m = r'.length + 1 := by have := unhide HL; simp at this; omega
      have hm0 : ((m : Int) == 0) = false := by simp; omega
      have hm1 : (1 : Int) ≤ (m : Int) := by omega
      have hm2 : 0 < m := by omega
      have hm3 : (m : Int) ≤ ((c - 1 : Nat) : Int) := by have := (unhide Hs).nc; omega
      obtain ⟨b1, off1, d', e1, hb1lt, hh, hcell1⟩ := ((unhide Hs).mono (unhide Hu)).byte hm2
      subst e1
      simp at hh
      subst hh
      obtain ⟨A2, hA2⟩ : ∃ A2, (if c = 2 then some (⟨b1, off1, none⟩ : Addr) else some ⟨b1, off1 + 1, none⟩) = A2 := ⟨_, rfl⟩
      have hs2 : Sl u 1 A2 r'.length (c - 1 - 1) (bvs r') := by
        have := (unhide Hs).cut (show 1 ≤ m by omega)
        rw [← hA2]
        simp only [show (c - 1 = 1) = (c = 2) from propext ⟨fun _ => by omega, fun _ => by omega⟩, show m - 1 = r'.length by omega] at this
        simpa [Addr.add, bvs] using this
      have hmr : m - 1 = r'.length := by omega
      have c0 : (0 : Int) ≤ (d.toNat : Int) := by omega
      have c1 : (d.toNat : Int) < 256 := by have := d.toNat_lt; omega
      simp only [Nat.add_zero] at hcell1
      have Hs2 := hide hs2
      clear t1 hml hs2
      go_wp2_with fail
      refine bodyPost_ret (res_val_tt (x := ⟨1, d.toNat, 0, []⟩) rfl rfl (by simp [ValAt, go_sem])) rfl ⟨(by repeat (first | with_reducible exact Below.refl _ _ | with_reducible assumption | ((with_reducible refine Below.alloc ?_ ?_ _); rotate_left; (first | exact Nat.le_refl _ | (simp; done) | (simp; omega) | omega)) | ((with_reducible refine Below.setCell ?_ ?_ _); rotate_left; (first | exact Nat.le_refl _ | (simp; done) | (simp; omega) | omega)) | (with_reducible refine Below.drew ?_) | (with_reducible refine Go.RowKit.below_drewN ?_ _))), A2, c - 1 - 1, rfl, unhide Hs2⟩
  by_cases t2 : t = 2
  · have hz : (t.toNat : Int) = 2 := by rw [t2]; rfl
    clear t0 b0 b1 t1
    by_cases h8 : m < 8
    · have hend : ANS = none := by rw [← unhide HA]; simp [nextS, t2, unhide HL, h8]
      subst hend
      clear t2
      go_wp2_with (go_at_call 50; refine (eight_short _ _ _ _ h8).mono ?_; rintro e w2 ⟨rfl, rfl⟩)
      exact bodyPost_ret (res_val_tt (x := ⟨2, 0, 0, []⟩) rfl rfl (by simp [ValAt, go_sem])) rfl ⟨(by repeat (first | with_reducible exact Below.refl _ _ | with_reducible assumption | ((with_reducible refine Below.alloc ?_ ?_ _); rotate_left; (first | exact Nat.le_refl _ | (simp; done) | (simp; omega) | omega)) | ((with_reducible refine Below.setCell ?_ ?_ _); rotate_left; (first | exact Nat.le_refl _ | (simp; done) | (simp; omega) | omega)) | (with_reducible refine Below.drew ?_) | (with_reducible refine Go.RowKit.below_drewN ?_ _))), ⟨2, 0, 0, []⟩, _, _, _, rfl⟩
    · have hend : ANS = some (⟨2, (deTo r 8 : Int) - 9223372036854775808, 0, []⟩, r.drop 8) := by rw [← unhide HA]; simp [nextS, t2, unhide HL, h8]
      subst hend
      clear t2
      go_wp2_with (go_at_call 50; refine (eight_any u _ _ _ _ _ (unhide Hs) ((unhide Hu).trans ((Below.mono (B := w.heap.size) (by repeat (first | with_reducible exact Below.refl _ _ | with_reducible assumption | ((with_reducible refine Below.alloc ?_ ?_ _); rotate_left; (first | exact Nat.le_refl _ | (simp; done) | (simp; omega) | omega)) | ((with_reducible refine Below.setCell ?_ ?_ _); rotate_left; (first | exact Nat.le_refl _ | (simp; done) | (simp; omega) | omega)) | (with_reducible refine Below.drew ?_) | (with_reducible refine Go.RowKit.below_drewN ?_ _))) (unhide HU)))) (by omega)).mono ?_; rintro e w1 ⟨A3, c3, rfl, hs3, hb⟩; have hbw : Below w.heap.size w w1 := below_step hb (by repeat (first | with_reducible exact Below.refl _ _ | with_reducible assumption | ((with_reducible refine Below.alloc ?_ ?_ _); rotate_left; (first | exact Nat.le_refl _ | (simp; done) | (simp; omega) | omega)) | ((with_reducible refine Below.setCell ?_ ?_ _); rotate_left; (first | exact Nat.le_refl _ | (simp; done) | (simp; omega) | omega)) | (with_reducible refine Below.drew ?_) | (with_reducible refine Go.RowKit.below_drewN ?_ _))) (by first | exact Nat.le_refl _ | (simp; done) | (simp; omega) | omega); obtain ⟨hb1, hb2, hb3⟩ := bcell hb; (try simp at hb3); clear hb)
      have hrl : (r.drop 8).length = m - 8 := by rw [List.length_drop, unhide HL]
      have q1 : w1.cell? ⟨w.heap.size, 1, none⟩ = some (.int .i64 0) := by simp [hb1, go_sem]
      have q2 : w1.cell? ⟨w.heap.size, 2, none⟩ = some (.int .i64 0) := by simp [hb1, go_sem]
      have q3 : w1.cell? ⟨w.heap.size, 3, none⟩ = some (.string ⟨#[]⟩) := by simp [hb1, go_sem]
      have q0 : w1.cell? ⟨w.heap.size, 0, none⟩ = some (.int .i64 2) := by simp [hb1, go_sem]
      refine bodyPost_ret (res_val_tt (x := ⟨2, (deTo r 8 : Int) - 9223372036854775808, 0, []⟩) rfl rfl ?_) rfl ⟨(by repeat (first | with_reducible exact Below.refl _ _ | with_reducible assumption | ((with_reducible refine Below.alloc ?_ ?_ _); rotate_left; (first | exact Nat.le_refl _ | (simp; done) | (simp; omega) | omega)) | ((with_reducible refine Below.setCell ?_ ?_ _); rotate_left; (first | exact Nat.le_refl _ | (simp; done) | (simp; omega) | omega)) | (with_reducible refine Below.drew ?_) | (with_reducible refine Go.RowKit.below_drewN ?_ _))), A3, c3, ?_, ?_⟩
      · simp [ValAt, go_sem, q0, q1, q2, q3]
      · rw [hrl]; rfl
      · rw [hrl]; exact hs3
  by_cases t3 : t = 3
  · have hz : (t.toNat : Int) = 3 := by rw [t3]; rfl
    clear t0 b0 b1 t1 t2
    rcases r with _ | ⟨d, r'⟩
    · have hend : ANS = none := by rw [← unhide HA]; simp [nextS, t3]
      subst hend
      have hm0 : ((m : Int) == 0) = true := by have := unhide HL; simp at this; subst this; rfl
      clear t3
      go_wp2_with fail
      exact bodyPost_ret (res_val_tt (x := ⟨3, 0, 0, []⟩) rfl rfl (by simp [ValAt, go_sem])) rfl ⟨(by repeat (first | with_reducible exact Below.refl _ _ | with_reducible assumption | ((with_reducible refine Below.alloc ?_ ?_ _); rotate_left; (first | exact Nat.le_refl _ | (simp; done) | (simp; omega) | omega)) | ((with_reducible refine Below.setCell ?_ ?_ _); rotate_left; (first | exact Nat.le_refl _ | (simp; done) | (simp; omega) | omega)) | (with_reducible refine Below.drew ?_) | (with_reducible refine Go.RowKit.below_drewN ?_ _))), ⟨3, 0, 0, []⟩, _, _, _, rfl⟩
    · by_cases h8 : r'.length < 8
      · have hend : ANS = none := by rw [← unhide HA]; simp [nextS, t3, h8]
        subst hend
        have hml : m = r'.length + 1 := by have := unhide HL; simp at this; omega
        have hm0 : ((m : Int) == 0) = false := by simp; omega
        have hm1 : (1 : Int) ≤ (m : Int) := by omega
        have hm2 : 0 < m := by omega
        have hm3 : (m : Int) ≤ ((c - 1 : Nat) : Int) := by have := (unhide Hs).nc; omega
        obtain ⟨b1, off1, d', e1, hb1lt, hh, hcell1⟩ := ((unhide Hs).mono (unhide Hu)).byte hm2
        subst e1
        simp at hh
        subst hh
        obtain ⟨A2, hA2⟩ : ∃ A2, (if c = 2 then some (⟨b1, off1, none⟩ : Addr) else some ⟨b1, off1 + 1, none⟩) = A2 := ⟨_, rfl⟩
        have hs2 : Sl u 1 A2 r'.length (c - 1 - 1) (bvs r') := by
          have := (unhide Hs).cut (show 1 ≤ m by omega)
          rw [← hA2]
          simp only [show (c - 1 = 1) = (c = 2) from propext ⟨fun _ => by omega, fun _ => by omega⟩, show m - 1 = r'.length by omega] at this
          simpa [Addr.add, bvs] using this
        have hmr : m - 1 = r'.length := by omega
        have c0 : (0 : Int) ≤ (d.toNat : Int) := by omega
        have c1 : (d.toNat : Int) < 256 := by have := d.toNat_lt; omega
        simp only [Nat.add_zero] at hcell1
        have Hs2 := hide hs2
        clear t3 hml hs2
        go_wp2_with (go_at_call 50; refine (eight_short _ _ _ _ h8).mono ?_; rintro e w2 ⟨rfl, rfl⟩)
        exact bodyPost_ret (res_val_tt (x := ⟨3, 0, d.toNat, []⟩) rfl rfl (by simp [ValAt, go_sem])) rfl ⟨(by repeat (first | with_reducible exact Below.refl _ _ | with_reducible assumption | ((with_reducible refine Below.alloc ?_ ?_ _); rotate_left; (first | exact Nat.le_refl _ | (simp; done) | (simp; omega) | omega)) | ((with_reducible refine Below.setCell ?_ ?_ _); rotate_left; (first | exact Nat.le_refl _ | (simp; done) | (simp; omega) | omega)) | (with_reducible refine Below.drew ?_) | (with_reducible refine Go.RowKit.below_drewN ?_ _))), ⟨3, 0, d.toNat, []⟩, _, _, _, rfl⟩
      · have hend : ANS = some (⟨3, (deTo r' 8 : Int) - 9223372036854775808, d.toNat, []⟩, r'.drop 8) := by rw [← unhide HA]; simp [nextS, t3, h8]
        subst hend
        have hml : m = r'.length + 1 := by have := unhide HL; simp at this; omega
        have hm0 : ((m : Int) == 0) = false := by simp; omega
        have hm1 : (1 : Int) ≤ (m : Int) := by omega
        have hm2 : 0 < m := by omega
        have hm3 : (m : Int) ≤ ((c - 1 : Nat) : Int) := by have := (unhide Hs).nc; omega
        obtain ⟨b1, off1, d', e1, hb1lt, hh, hcell1⟩ := ((unhide Hs).mono (unhide Hu)).byte hm2
        subst e1
        simp at hh
        subst hh
        obtain ⟨A2, hA2⟩ : ∃ A2, (if c = 2 then some (⟨b1, off1, none⟩ : Addr) else some ⟨b1, off1 + 1, none⟩) = A2 := ⟨_, rfl⟩
        have hs2 : Sl u 1 A2 r'.length (c - 1 - 1) (bvs r') := by
          have := (unhide Hs).cut (show 1 ≤ m by omega)
          rw [← hA2]
          simp only [show (c - 1 = 1) = (c = 2) from propext ⟨fun _ => by omega, fun _ => by omega⟩, show m - 1 = r'.length by omega] at this
          simpa [Addr.add, bvs] using this
        have hmr : m - 1 = r'.length := by omega
        have c0 : (0 : Int) ≤ (d.toNat : Int) := by omega
        have c1 : (d.toNat : Int) < 256 := by have := d.toNat_lt; omega
        simp only [Nat.add_zero] at hcell1
        have Hs2 := hide hs2
        clear t3 hml hs2
        go_wp2_with (go_at_call 50; refine (eight_any u _ _ _ _ _ (unhide Hs2) ((unhide Hu).trans ((Below.mono (B := w.heap.size) (by repeat (first | with_reducible exact Below.refl _ _ | with_reducible assumption | ((with_reducible refine Below.alloc ?_ ?_ _); rotate_left; (first | exact Nat.le_refl _ | (simp; done) | (simp; omega) | omega)) | ((with_reducible refine Below.setCell ?_ ?_ _); rotate_left; (first | exact Nat.le_refl _ | (simp; done) | (simp; omega) | omega)) | (with_reducible refine Below.drew ?_) | (with_reducible refine Go.RowKit.below_drewN ?_ _))) (unhide HU)))) (by omega)).mono ?_; rintro e w1 ⟨A3, c3, rfl, hs3, hb⟩; have hbw : Below w.heap.size w w1 := below_step hb (by repeat (first | with_reducible exact Below.refl _ _ | with_reducible assumption | ((with_reducible refine Below.alloc ?_ ?_ _); rotate_left; (first | exact Nat.le_refl _ | (simp; done) | (simp; omega) | omega)) | ((with_reducible refine Below.setCell ?_ ?_ _); rotate_left; (first | exact Nat.le_refl _ | (simp; done) | (simp; omega) | omega)) | (with_reducible refine Below.drew ?_) | (with_reducible refine Go.RowKit.below_drewN ?_ _))) (by first | exact Nat.le_refl _ | (simp; done) | (simp; omega) | omega); obtain ⟨hb1, hb2, hb3⟩ := bcell hb; (try simp at hb3); clear hb)
        have hrl : (r'.drop 8).length = r'.length - 8 := by rw [List.length_drop]
        have q1 : w1.cell? ⟨w.heap.size, 1, none⟩ = some (.int .i64 0) := by simp [hb1, go_sem]
        have q2 : w1.cell? ⟨w.heap.size, 2, none⟩ = some (.int .i64 d.toNat) := by simp [hb1, go_sem]
        have q3 : w1.cell? ⟨w.heap.size, 3, none⟩ = some (.string ⟨#[]⟩) := by simp [hb1, go_sem]
        have q0 : w1.cell? ⟨w.heap.size, 0, none⟩ = some (.int .i64 3) := by simp [hb1, go_sem]
        refine bodyPost_ret (res_val_tt (x := ⟨3, (deTo r' 8 : Int) - 9223372036854775808, d.toNat, []⟩) rfl rfl ?_) rfl ⟨(by repeat (first | with_reducible exact Below.refl _ _ | with_reducible assumption | ((with_reducible refine Below.alloc ?_ ?_ _); rotate_left; (first | exact Nat.le_refl _ | (simp; done) | (simp; omega) | omega)) | ((with_reducible refine Below.setCell ?_ ?_ _); rotate_left; (first | exact Nat.le_refl _ | (simp; done) | (simp; omega) | omega)) | (with_reducible refine Below.drew ?_) | (with_reducible refine Go.RowKit.below_drewN ?_ _))), A3, c3, ?_, ?_⟩
        · simp [ValAt, go_sem, q0, q1, q2, q3]
        · rw [hrl]; rfl
        · rw [hrl]; exact hs3
  by_cases t4 : t = 4 ∨ t = 5
  · obtain ⟨K, hK⟩ : ∃ K : Int, (t.toNat : Int) = K := ⟨_, rfl⟩
    have hK45 : K = 4 ∨ K = 5 := by rcases t4 with rfl | rfl <;> simp at hK <;> omega
    have hnx : nextS (t :: r) = (untext r).map (fun p => (⟨K, 0, 0, p.1⟩, p.2)) := by simp [nextS, t0, t1, t2, t3, t4, hK]
    rw [hnx] at HA
    clear t0 b0 b1 t1 t2 t3 t4 hnx
    rcases hut : untext r with _ | ⟨tx, rest⟩
    · have hend : ANS = none := by rw [← unhide HA, hut]; rfl
      subst hend
      have hun := fun W (h : Below u.heap.size u W) => untext_any u W _ _ _ _ (unhide Hs) h hbig
      rw [hut] at hun
      have Hun := hide hun
      clear hun hut
      rcases hK45 with rfl | rfl
      · go_wp2_with (go_at_call 51; refine (unhide Hun _ ((unhide Hu).trans ((Below.mono (B := w.heap.size) (by repeat (first | with_reducible exact Below.refl _ _ | with_reducible assumption | ((with_reducible refine Below.alloc ?_ ?_ _); rotate_left; (first | exact Nat.le_refl _ | (simp; done) | (simp; omega) | omega)) | ((with_reducible refine Below.setCell ?_ ?_ _); rotate_left; (first | exact Nat.le_refl _ | (simp; done) | (simp; omega) | omega)) | (with_reducible refine Below.drew ?_) | (with_reducible refine Go.RowKit.below_drewN ?_ _))) (unhide HU))))).mono ?_; rintro e w1 ⟨hb, rfl⟩; have hbw : Below w.heap.size w w1 := below_step hb (by repeat (first | with_reducible exact Below.refl _ _ | with_reducible assumption | ((with_reducible refine Below.alloc ?_ ?_ _); rotate_left; (first | exact Nat.le_refl _ | (simp; done) | (simp; omega) | omega)) | ((with_reducible refine Below.setCell ?_ ?_ _); rotate_left; (first | exact Nat.le_refl _ | (simp; done) | (simp; omega) | omega)) | (with_reducible refine Below.drew ?_) | (with_reducible refine Go.RowKit.below_drewN ?_ _))) (by first | exact Nat.le_refl _ | (simp; done) | (simp; omega) | omega); obtain ⟨hb1, hb2, hb3⟩ := bcell hb; (try simp at hb3); clear hb)
        have q1 : w1.cell? ⟨w.heap.size, 1, none⟩ = some (.int .i64 0) := by simp [hb1, go_sem]
        have q2 : w1.cell? ⟨w.heap.size, 2, none⟩ = some (.int .i64 0) := by simp [hb1, go_sem]
        have q3 : w1.cell? ⟨w.heap.size, 3, none⟩ = some (.string ⟨#[]⟩) := by simp [hb1, go_sem]
        have q0 : w1.cell? ⟨w.heap.size, 0, none⟩ = some (.int .i64 4) := by simp [hb1, go_sem]
        refine bodyPost_ret (res_val_tt (x := ⟨4, 0, 0, []⟩) rfl rfl ?_) rfl ⟨(by repeat (first | with_reducible exact Below.refl _ _ | with_reducible assumption | ((with_reducible refine Below.alloc ?_ ?_ _); rotate_left; (first | exact Nat.le_refl _ | (simp; done) | (simp; omega) | omega)) | ((with_reducible refine Below.setCell ?_ ?_ _); rotate_left; (first | exact Nat.le_refl _ | (simp; done) | (simp; omega) | omega)) | (with_reducible refine Below.drew ?_) | (with_reducible refine Go.RowKit.below_drewN ?_ _))), ⟨4, 0, 0, []⟩, _, _, _, rfl⟩
        simp [ValAt, go_sem, q0, q1, q2, q3]
      · go_wp2_with (go_at_call 51; refine (unhide Hun _ ((unhide Hu).trans ((Below.mono (B := w.heap.size) (by repeat (first | with_reducible exact Below.refl _ _ | with_reducible assumption | ((with_reducible refine Below.alloc ?_ ?_ _); rotate_left; (first | exact Nat.le_refl _ | (simp; done) | (simp; omega) | omega)) | ((with_reducible refine Below.setCell ?_ ?_ _); rotate_left; (first | exact Nat.le_refl _ | (simp; done) | (simp; omega) | omega)) | (with_reducible refine Below.drew ?_) | (with_reducible refine Go.RowKit.below_drewN ?_ _))) (unhide HU))))).mono ?_; rintro e w1 ⟨hb, rfl⟩; have hbw : Below w.heap.size w w1 := below_step hb (by repeat (first | with_reducible exact Below.refl _ _ | with_reducible assumption | ((with_reducible refine Below.alloc ?_ ?_ _); rotate_left; (first | exact Nat.le_refl _ | (simp; done) | (simp; omega) | omega)) | ((with_reducible refine Below.setCell ?_ ?_ _); rotate_left; (first | exact Nat.le_refl _ | (simp; done) | (simp; omega) | omega)) | (with_reducible refine Below.drew ?_) | (with_reducible refine Go.RowKit.below_drewN ?_ _))) (by first | exact Nat.le_refl _ | (simp; done) | (simp; omega) | omega); obtain ⟨hb1, hb2, hb3⟩ := bcell hb; (try simp at hb3); clear hb)
        have q1 : w1.cell? ⟨w.heap.size, 1, none⟩ = some (.int .i64 0) := by simp [hb1, go_sem]
        have q2 : w1.cell? ⟨w.heap.size, 2, none⟩ = some (.int .i64 0) := by simp [hb1, go_sem]
        have q3 : w1.cell? ⟨w.heap.size, 3, none⟩ = some (.string ⟨#[]⟩) := by simp [hb1, go_sem]
        have q0 : w1.cell? ⟨w.heap.size, 0, none⟩ = some (.int .i64 5) := by simp [hb1, go_sem]
        refine bodyPost_ret (res_val_tt (x := ⟨5, 0, 0, []⟩) rfl rfl ?_) rfl ⟨(by repeat (first | with_reducible exact Below.refl _ _ | with_reducible assumption | ((with_reducible refine Below.alloc ?_ ?_ _); rotate_left; (first | exact Nat.le_refl _ | (simp; done) | (simp; omega) | omega)) | ((with_reducible refine Below.setCell ?_ ?_ _); rotate_left; (first | exact Nat.le_refl _ | (simp; done) | (simp; omega) | omega)) | (with_reducible refine Below.drew ?_) | (with_reducible refine Go.RowKit.below_drewN ?_ _))), ⟨5, 0, 0, []⟩, _, _, _, rfl⟩
        simp [ValAt, go_sem, q0, q1, q2, q3]
    · have hend : ANS = some (⟨K, 0, 0, tx⟩, rest) := by rw [← unhide HA, hut]; rfl
      subst hend
      have hun := fun W (h : Below u.heap.size u W) => untext_any u W _ _ _ _ (unhide Hs) h hbig
      rw [hut] at hun
      have Hun := hide hun
      clear hun hut
      rcases hK45 with rfl | rfl
      · go_wp2_with (go_at_call 51; refine (unhide Hun _ ((unhide Hu).trans ((Below.mono (B := w.heap.size) (by repeat (first | with_reducible exact Below.refl _ _ | with_reducible assumption | ((with_reducible refine Below.alloc ?_ ?_ _); rotate_left; (first | exact Nat.le_refl _ | (simp; done) | (simp; omega) | omega)) | ((with_reducible refine Below.setCell ?_ ?_ _); rotate_left; (first | exact Nat.le_refl _ | (simp; done) | (simp; omega) | omega)) | (with_reducible refine Below.drew ?_) | (with_reducible refine Go.RowKit.below_drewN ?_ _))) (unhide HU))))).mono ?_; rintro e w1 ⟨hb, A3, c3, rfl, hs3⟩; have hbw : Below w.heap.size w w1 := below_step hb (by repeat (first | with_reducible exact Below.refl _ _ | with_reducible assumption | ((with_reducible refine Below.alloc ?_ ?_ _); rotate_left; (first | exact Nat.le_refl _ | (simp; done) | (simp; omega) | omega)) | ((with_reducible refine Below.setCell ?_ ?_ _); rotate_left; (first | exact Nat.le_refl _ | (simp; done) | (simp; omega) | omega)) | (with_reducible refine Below.drew ?_) | (with_reducible refine Go.RowKit.below_drewN ?_ _))) (by first | exact Nat.le_refl _ | (simp; done) | (simp; omega) | omega); obtain ⟨hb1, hb2, hb3⟩ := bcell hb; (try simp at hb3); clear hb)
        have q1 : w1.cell? ⟨w.heap.size, 1, none⟩ = some (.int .i64 0) := by simp [hb1, go_sem]
        have q2 : w1.cell? ⟨w.heap.size, 2, none⟩ = some (.int .i64 0) := by simp [hb1, go_sem]
        have q3 : w1.cell? ⟨w.heap.size, 3, none⟩ = some (.string ⟨#[]⟩) := by simp [hb1, go_sem]
        have q0 : w1.cell? ⟨w.heap.size, 0, none⟩ = some (.int .i64 4) := by simp [hb1, go_sem]
        refine bodyPost_ret (res_val_tt (x := ⟨4, 0, 0, tx⟩) rfl rfl ?_) rfl ⟨(by repeat (first | with_reducible exact Below.refl _ _ | with_reducible assumption | ((with_reducible refine Below.alloc ?_ ?_ _); rotate_left; (first | exact Nat.le_refl _ | (simp; done) | (simp; omega) | omega)) | ((with_reducible refine Below.setCell ?_ ?_ _); rotate_left; (first | exact Nat.le_refl _ | (simp; done) | (simp; omega) | omega)) | (with_reducible refine Below.drew ?_) | (with_reducible refine Go.RowKit.below_drewN ?_ _))), A3, c3, rfl, hs3⟩
        simp [ValAt, go_sem, q0, q1, q2, q3]
      · go_wp2_with (go_at_call 51; refine (unhide Hun _ ((unhide Hu).trans ((Below.mono (B := w.heap.size) (by repeat (first | with_reducible exact Below.refl _ _ | with_reducible assumption | ((with_reducible refine Below.alloc ?_ ?_ _); rotate_left; (first | exact Nat.le_refl _ | (simp; done) | (simp; omega) | omega)) | ((with_reducible refine Below.setCell ?_ ?_ _); rotate_left; (first | exact Nat.le_refl _ | (simp; done) | (simp; omega) | omega)) | (with_reducible refine Below.drew ?_) | (with_reducible refine Go.RowKit.below_drewN ?_ _))) (unhide HU))))).mono ?_; rintro e w1 ⟨hb, A3, c3, rfl, hs3⟩; have hbw : Below w.heap.size w w1 := below_step hb (by repeat (first | with_reducible exact Below.refl _ _ | with_reducible assumption | ((with_reducible refine Below.alloc ?_ ?_ _); rotate_left; (first | exact Nat.le_refl _ | (simp; done) | (simp; omega) | omega)) | ((with_reducible refine Below.setCell ?_ ?_ _); rotate_left; (first | exact Nat.le_refl _ | (simp; done) | (simp; omega) | omega)) | (with_reducible refine Below.drew ?_) | (with_reducible refine Go.RowKit.below_drewN ?_ _))) (by first | exact Nat.le_refl _ | (simp; done) | (simp; omega) | omega); obtain ⟨hb1, hb2, hb3⟩ := bcell hb; (try simp at hb3); clear hb)
        have q1 : w1.cell? ⟨w.heap.size, 1, none⟩ = some (.int .i64 0) := by simp [hb1, go_sem]
        have q2 : w1.cell? ⟨w.heap.size, 2, none⟩ = some (.int .i64 0) := by simp [hb1, go_sem]
        have q3 : w1.cell? ⟨w.heap.size, 3, none⟩ = some (.string ⟨#[]⟩) := by simp [hb1, go_sem]
        have q0 : w1.cell? ⟨w.heap.size, 0, none⟩ = some (.int .i64 5) := by simp [hb1, go_sem]
        refine bodyPost_ret (res_val_tt (x := ⟨5, 0, 0, tx⟩) rfl rfl ?_) rfl ⟨(by repeat (first | with_reducible exact Below.refl _ _ | with_reducible assumption | ((with_reducible refine Below.alloc ?_ ?_ _); rotate_left; (first | exact Nat.le_refl _ | (simp; done) | (simp; omega) | omega)) | ((with_reducible refine Below.setCell ?_ ?_ _); rotate_left; (first | exact Nat.le_refl _ | (simp; done) | (simp; omega) | omega)) | (with_reducible refine Below.drew ?_) | (with_reducible refine Go.RowKit.below_drewN ?_ _))), A3, c3, rfl, hs3⟩
        simp [ValAt, go_sem, q0, q1, q2, q3]
  have hend : ANS = none := by rw [← unhide HA]; simp [nextS, t0, t1, t2, t3, t4]
  subst hend
  have e0 : ((t.toNat : Int) == 0) = false := beq_u8 (n := 0) (by omega) t0
  have e1 : ((t.toNat : Int) == 1) = false := beq_u8 (n := 1) (by omega) t1
  have e2 : ((t.toNat : Int) == 2) = false := beq_u8 (n := 2) (by omega) t2
  have e3 : ((t.toNat : Int) == 3) = false := beq_u8 (n := 3) (by omega) t3
  have e4 : ((t.toNat : Int) == 4) = false := beq_u8 (n := 4) (by omega) (fun h => t4 (.inl h))
  have e5 : ((t.toNat : Int) == 5) = false := beq_u8 (n := 5) (by omega) (fun h => t4 (.inr h))
  clear t0 t1 t2 t3 t4 b0 b1
  go_wp2_with fail
  exact bodyPost_ret (res_val_tt (x := ⟨t.toNat, 0, 0, []⟩) rfl rfl (by simp [ValAt, go_sem])) rfl ⟨(by repeat (first | with_reducible exact Below.refl _ _ | with_reducible assumption | ((with_reducible refine Below.alloc ?_ ?_ _); rotate_left; (first | exact Nat.le_refl _ | (simp; done) | (simp; omega) | omega)) | ((with_reducible refine Below.setCell ?_ ?_ _); rotate_left; (first | exact Nat.le_refl _ | (simp; done) | (simp; omega) | omega)) | (with_reducible refine Below.drew ?_) | (with_reducible refine Go.RowKit.below_drewN ?_ _))), ⟨t.toNat, 0, 0, []⟩, _, _, _, rfl⟩

/-- the next value of a key: valid, or none -/
def nextV (l : List UInt8) : Option (Val × List UInt8) := (nextS l).bind fun p => if right p.1 then some p else none
def NextedV (w : World) (r : Option (Val × List UInt8)) : Ending → World → Prop := fun e w' => Below w.heap.size w w' ∧ match r with
  | none => e = .returned (.tuple #[.agg #[.int .i64 0, .int .i64 0, .int .i64 0, .string ⟨#[]⟩], .slice none 0 0, .bool false])
  | some (x, rest) => ∃ A c, e = .returned (.tuple #[.agg #[.int .i64 x.kind, .int .i64 x.n, .int .i64 x.scale, .string ⟨x.s.toArray⟩], .slice A rest.length c, .bool true]) ∧ OwnB w' w.heap.size (.slice A rest.length c) rest

set_option maxRecDepth 100000 in
set_option maxHeartbeats 1000000 in
theorem keysNext_any (w : World) (A : Option Addr) (n c : Nat) (l : List UInt8) (hs : Sl w 1 A n c (bvs l)) (hn : n ≤ 100000000000) (hT : Tabs w) :
    Calls Tryd.prog 18 #[.slice A n c] w (NextedV w (nextV l)) := by
  have hlen := hs.blen
  by_cases h0 : n = 0
  · have hz : ((n : Int) == 0) = true := by simp [h0]
    have : l = [] := List.eq_nil_of_length_eq_zero (by omega)
    subst this
    rw [show nextV [] = none from rfl]
    clear hs hlen h0
    go_enter Tryd.func18, Tryd.ntmps18
    go_wp2_with fail
    exact bodyPost_ret (res_val_tt (x := vnull) rfl rfl (by simp [ValAt, go_sem, vnull])) rfl ⟨(by repeat (first | with_reducible exact Below.refl _ _ | with_reducible assumption | ((with_reducible refine Below.alloc ?_ ?_ _); rotate_left; (first | exact Nat.le_refl _ | (simp; done) | (simp; omega) | omega)) | ((with_reducible refine Below.setCell ?_ ?_ _); rotate_left; (first | exact Nat.le_refl _ | (simp; done) | (simp; omega) | omega)) | (with_reducible refine Below.drew ?_) | (with_reducible refine Go.RowKit.below_drewN ?_ _))), rfl⟩
  · have hz : ((n : Int) == 0) = false := by simp [h0]
    have hnx := fun W (h : Below w.heap.size w W) => next_any w W _ _ _ _ hs h hn (by omega)
    obtain ⟨ANS, hA⟩ : ∃ r, nextV l = r := ⟨_, rfl⟩
    rw [hA]
    unfold nextV at hA
    rcases hS : nextS l with _ | ⟨x, rest⟩
    · rw [hS] at hA hnx
      have hend : ANS = none := hA.symm
      subst hend
      have Hnx := hide hnx
      clear hnx hA hS hs h0 hlen
      go_enter Tryd.func18, Tryd.ntmps18
      go_wp2_with (go_at_call 33; refine (unhide Hnx _ (by repeat (first | with_reducible exact Below.refl _ _ | with_reducible assumption | ((with_reducible refine Below.alloc ?_ ?_ _); rotate_left; (first | exact Nat.le_refl _ | (simp; done) | (simp; omega) | omega)) | ((with_reducible refine Below.setCell ?_ ?_ _); rotate_left; (first | exact Nat.le_refl _ | (simp; done) | (simp; omega) | omega)) | (with_reducible refine Below.drew ?_) | (with_reducible refine Go.RowKit.below_drewN ?_ _)))).mono ?_; rintro e w1 ⟨hb, x, A3, n3, c3, rfl⟩; have hbw : Below w.heap.size w w1 := below_step hb (by repeat (first | with_reducible exact Below.refl _ _ | with_reducible assumption | ((with_reducible refine Below.alloc ?_ ?_ _); rotate_left; (first | exact Nat.le_refl _ | (simp; done) | (simp; omega) | omega)) | ((with_reducible refine Below.setCell ?_ ?_ _); rotate_left; (first | exact Nat.le_refl _ | (simp; done) | (simp; omega) | omega)) | (with_reducible refine Below.drew ?_) | (with_reducible refine Go.RowKit.below_drewN ?_ _))) (by first | exact Nat.le_refl _ | (simp; done) | (simp; omega) | omega); have L1 : Loc w1 w.heap.size vnull := (Loc.new w vnull).below hb (by simp); obtain ⟨p0, p1, p2, p3, pf, pl⟩ := L1.facts; clear hb)
      refine bodyPost_ret (res_val_tt (x := vnull) rfl rfl ?_) rfl ⟨(by repeat (first | with_reducible exact Below.refl _ _ | with_reducible assumption | ((with_reducible refine Below.alloc ?_ ?_ _); rotate_left; (first | exact Nat.le_refl _ | (simp; done) | (simp; omega) | omega)) | ((with_reducible refine Below.setCell ?_ ?_ _); rotate_left; (first | exact Nat.le_refl _ | (simp; done) | (simp; omega) | omega)) | (with_reducible refine Below.drew ?_) | (with_reducible refine Go.RowKit.below_drewN ?_ _))), rfl⟩
      simp only [vnull] at p0 p1 p2 p3
      simp [ValAt, go_sem, p0, p1, p2, p3, pl, vnull]
    · rw [hS] at hA hnx
      have hr := fun W (h : Tabs W) => right_any x W h
      have Hnx := hide hnx
      rcases hx : right x with _ | _
      · have hend : ANS = none := by rw [← hA]; simp [hx]
        subst hend
        rw [hx] at hr
        have Hr := hide hr
        clear hr hnx hA hS hs h0 hlen hx
        go_enter Tryd.func18, Tryd.ntmps18
        go_wp2_with (first
          | (go_at_call 33; refine (unhide Hnx _ (by repeat (first | with_reducible exact Below.refl _ _ | with_reducible assumption | ((with_reducible refine Below.alloc ?_ ?_ _); rotate_left; (first | exact Nat.le_refl _ | (simp; done) | (simp; omega) | omega)) | ((with_reducible refine Below.setCell ?_ ?_ _); rotate_left; (first | exact Nat.le_refl _ | (simp; done) | (simp; omega) | omega)) | (with_reducible refine Below.drew ?_) | (with_reducible refine Go.RowKit.below_drewN ?_ _)))).mono ?_; rintro e w1 ⟨hb, A3, c3, rfl, hs3⟩; have hbw : Below w.heap.size w w1 := below_step hb (by repeat (first | with_reducible exact Below.refl _ _ | with_reducible assumption | ((with_reducible refine Below.alloc ?_ ?_ _); rotate_left; (first | exact Nat.le_refl _ | (simp; done) | (simp; omega) | omega)) | ((with_reducible refine Below.setCell ?_ ?_ _); rotate_left; (first | exact Nat.le_refl _ | (simp; done) | (simp; omega) | omega)) | (with_reducible refine Below.drew ?_) | (with_reducible refine Go.RowKit.below_drewN ?_ _))) (by first | exact Nat.le_refl _ | (simp; done) | (simp; omega) | omega); have L1 : Loc w1 w.heap.size vnull := (Loc.new w vnull).below hb (by simp); obtain ⟨p0, p1, p2, p3, pf, pl⟩ := L1.facts; clear hb)
          | (go_at_call 34; refine (unhide Hr _ (hT.below (by repeat (first | with_reducible exact Below.refl _ _ | with_reducible assumption | ((with_reducible refine Below.alloc ?_ ?_ _); rotate_left; (first | exact Nat.le_refl _ | (simp; done) | (simp; omega) | omega)) | ((with_reducible refine Below.setCell ?_ ?_ _); rotate_left; (first | exact Nat.le_refl _ | (simp; done) | (simp; omega) | omega)) | (with_reducible refine Below.drew ?_) | (with_reducible refine Go.RowKit.below_drewN ?_ _))))).mono ?_; rintro e w2 ⟨rfl, hc⟩; have hbw2 : Below w.heap.size w w2 := below_step hc (by repeat (first | with_reducible exact Below.refl _ _ | with_reducible assumption | ((with_reducible refine Below.alloc ?_ ?_ _); rotate_left; (first | exact Nat.le_refl _ | (simp; done) | (simp; omega) | omega)) | ((with_reducible refine Below.setCell ?_ ?_ _); rotate_left; (first | exact Nat.le_refl _ | (simp; done) | (simp; omega) | omega)) | (with_reducible refine Below.drew ?_) | (with_reducible refine Go.RowKit.below_drewN ?_ _))) (by first | exact Nat.le_refl _ | (simp; done) | (simp; omega) | omega); have L2 : Loc w2 w.heap.size vnull := (L1.alloc _).below hc (by simp; omega); obtain ⟨q0, q1, q2, q3, qf, ql⟩ := L2.facts; clear hc))
        refine bodyPost_ret (res_val_tt (x := vnull) rfl rfl ?_) rfl ⟨(by repeat (first | with_reducible exact Below.refl _ _ | with_reducible assumption | ((with_reducible refine Below.alloc ?_ ?_ _); rotate_left; (first | exact Nat.le_refl _ | (simp; done) | (simp; omega) | omega)) | ((with_reducible refine Below.setCell ?_ ?_ _); rotate_left; (first | exact Nat.le_refl _ | (simp; done) | (simp; omega) | omega)) | (with_reducible refine Below.drew ?_) | (with_reducible refine Go.RowKit.below_drewN ?_ _))), rfl⟩
        simp only [vnull] at q0 q1 q2 q3
        simp [ValAt, go_sem, q0, q1, q2, q3, ql, vnull]
      · have hend : ANS = some (x, rest) := by rw [← hA]; simp [hx]
        subst hend
        rw [hx] at hr
        have Hr := hide hr
        have hS' := hS
        clear hr hnx hA hS h0 hx
        have Hs := hide hs
        have hrl : rest.length ≤ 100000000000 := by have := nextS_len hS'; omega
        clear hs hlen hS'
        go_enter Tryd.func18, Tryd.ntmps18
        go_wp2_with (first
          | (go_at_call 33; refine (unhide Hnx _ (by repeat (first | with_reducible exact Below.refl _ _ | with_reducible assumption | ((with_reducible refine Below.alloc ?_ ?_ _); rotate_left; (first | exact Nat.le_refl _ | (simp; done) | (simp; omega) | omega)) | ((with_reducible refine Below.setCell ?_ ?_ _); rotate_left; (first | exact Nat.le_refl _ | (simp; done) | (simp; omega) | omega)) | (with_reducible refine Below.drew ?_) | (with_reducible refine Go.RowKit.below_drewN ?_ _)))).mono ?_; rintro e w1 ⟨hb, A3, c3, rfl, hs3⟩; have hbw : Below w.heap.size w w1 := below_step hb (by repeat (first | with_reducible exact Below.refl _ _ | with_reducible assumption | ((with_reducible refine Below.alloc ?_ ?_ _); rotate_left; (first | exact Nat.le_refl _ | (simp; done) | (simp; omega) | omega)) | ((with_reducible refine Below.setCell ?_ ?_ _); rotate_left; (first | exact Nat.le_refl _ | (simp; done) | (simp; omega) | omega)) | (with_reducible refine Below.drew ?_) | (with_reducible refine Go.RowKit.below_drewN ?_ _))) (by first | exact Nat.le_refl _ | (simp; done) | (simp; omega) | omega); have L1 : Loc w1 w.heap.size vnull := (Loc.new w vnull).below hb (by simp); obtain ⟨p0, p1, p2, p3, pf, pl⟩ := L1.facts; clear hb)
          | (go_at_call 34; refine (unhide Hr _ (hT.below (by repeat (first | with_reducible exact Below.refl _ _ | with_reducible assumption | ((with_reducible refine Below.alloc ?_ ?_ _); rotate_left; (first | exact Nat.le_refl _ | (simp; done) | (simp; omega) | omega)) | ((with_reducible refine Below.setCell ?_ ?_ _); rotate_left; (first | exact Nat.le_refl _ | (simp; done) | (simp; omega) | omega)) | (with_reducible refine Below.drew ?_) | (with_reducible refine Go.RowKit.below_drewN ?_ _))))).mono ?_; rintro e w2 ⟨rfl, hc⟩; have hbw2 : Below w.heap.size w w2 := below_step hc (by repeat (first | with_reducible exact Below.refl _ _ | with_reducible assumption | ((with_reducible refine Below.alloc ?_ ?_ _); rotate_left; (first | exact Nat.le_refl _ | (simp; done) | (simp; omega) | omega)) | ((with_reducible refine Below.setCell ?_ ?_ _); rotate_left; (first | exact Nat.le_refl _ | (simp; done) | (simp; omega) | omega)) | (with_reducible refine Below.drew ?_) | (with_reducible refine Go.RowKit.below_drewN ?_ _))) (by first | exact Nat.le_refl _ | (simp; done) | (simp; omega) | omega); have L2 : Loc w2 w.heap.size vnull := (L1.alloc _).below hc (by simp; omega); have M2 : Loc w2 w1.heap.size x := (Loc.new w1 x).below hc (by simp); obtain ⟨q0, q1, q2, q3, qf, ql⟩ := L2.facts; obtain ⟨m0, m1, m2, m3, mf, ml⟩ := M2.facts; clear hc))
        have hne1 : w1.heap.size ≠ w.heap.size := by omega
        go_region_held3 (fun w' => (w'.cell? ⟨w1.heap.size, 0, none⟩ = some (.int .i64 x.kind) ∧ w'.cell? ⟨w1.heap.size, 1, none⟩ = some (.int .i64 x.n) ∧ w'.cell? ⟨w1.heap.size, 2, none⟩ = some (.int .i64 x.scale) ∧ w'.cell? ⟨w1.heap.size, 3, none⟩ = some (.string ⟨x.s.toArray⟩)))
          (first | with_reducible exact ⟨n0, n1, n2, n3⟩ | exact ⟨m0, m1, m2, m3⟩ | exact ⟨(cell_sets hne1).trans n0, (cell_sets hne1).trans n1, (cell_sets hne1).trans n2, (cell_sets hne1).trans n3⟩)
          ((first
            | (go_at_call 35; refine (clone_any _ _ _ _ rest (hs3.mono (by repeat (first | with_reducible exact Below.refl _ _ | with_reducible assumption | ((with_reducible refine Below.alloc ?_ ?_ _); rotate_left; (first | exact Nat.le_refl _ | (simp; done) | (simp; omega) | omega)) | ((with_reducible refine Below.setCell ?_ ?_ _); rotate_left; (first | exact Nat.le_refl _ | (simp; done) | (simp; omega) | omega)) | (with_reducible refine Below.drew ?_) | (with_reducible refine Go.RowKit.below_drewN ?_ _)))) hrl).mono ?_; rintro e w3 ⟨A4, c4, rfl, ho4, hs4, hd⟩; have hbw3 : Below w.heap.size w w3 := below_step hd (by repeat (first | with_reducible exact Below.refl _ _ | with_reducible assumption | ((with_reducible refine Below.alloc ?_ ?_ _); rotate_left; (first | exact Nat.le_refl _ | (simp; done) | (simp; omega) | omega)) | ((with_reducible refine Below.setCell ?_ ?_ _); rotate_left; (first | exact Nat.le_refl _ | (simp; done) | (simp; omega) | omega)) | (with_reducible refine Below.drew ?_) | (with_reducible refine Go.RowKit.below_drewN ?_ _))) (by first | exact Nat.le_refl _ | (simp; done) | (simp; omega) | omega); have L3 : Loc w3 w.heap.size vnull := (show Loc w2.drew w.heap.size vnull from L2).below hd (by simp; omega); have M3 : Loc w3 w1.heap.size x := (show Loc w2.drew w1.heap.size x from M2).below hd (by simp; omega); obtain ⟨q0, q1, q2, q3, qf, ql⟩ := L3.facts; obtain ⟨n0, n1, n2, n3, nf, nl⟩ := M3.facts; (try simp at ho4); clear hd)))
        go_wp2_with fail
        refine bodyPost_ret (res_val_tt (x := x) rfl rfl (L3.store x).valAt) rfl ⟨(by repeat (first | with_reducible exact Below.refl _ _ | with_reducible assumption | ((with_reducible refine Below.alloc ?_ ?_ _); rotate_left; (first | exact Nat.le_refl _ | (simp; done) | (simp; omega) | omega)) | ((with_reducible refine Below.setCell ?_ ?_ _); rotate_left; (first | exact Nat.le_refl _ | (simp; done) | (simp; omega) | omega)) | (with_reducible refine Below.drew ?_) | (with_reducible refine Go.RowKit.below_drewN ?_ _))), A4, c4, rfl, ?_⟩
        exact own_mono ((((ho4.setBelow (by simp; omega) _).setBelow (by simp; omega) _).setBelow (by simp; omega) _).setBelow (by simp; omega) _) (by omega)
end Go.Proofs.YtclhnfalebiieaaDoor
