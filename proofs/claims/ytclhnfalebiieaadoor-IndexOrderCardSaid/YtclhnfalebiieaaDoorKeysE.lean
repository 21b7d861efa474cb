/-
  Layer 5: all values of a key.
-/
import Derived.Test.YtclhnfalebiieaaDoorKeysD
set_option linter.unusedVariables false
set_option linter.unusedSimpArgs false
namespace Go.Proofs.YtclhnfalebiieaaDoor
open Go.RowKit
theorem nextV_len {l : List UInt8} {x : Val} {r : List UInt8} (h : nextV l = some (x, r)) : r.length < l.length := by
  obtain ⟨p, hp, h⟩ := Option.bind_eq_some_iff.1 h
  split at h
  · injection h with h
    subst h
    exact nextS_len hp
  · cases h
/-- all values of a key -/
def getTo : Nat → List UInt8 → Option (List Val)
  | 0, _ => some []
  | k + 1, l => if l = [] then some [] else match nextV l with
    | none => none
    | some (x, r) => (getTo k r).map (x :: ·)
def getV (l : List UInt8) : Option (List Val) := getTo l.length l
theorem getTo_fuel : ∀ (k : Nat) (l : List UInt8), l.length ≤ k → getTo k l = getV l := by
  intro k
  induction k using Nat.strongRecOn with
  | _ k ih =>
    intro l hl
    unfold getV
    match k, l with
    | 0, [] => rfl
    | k + 1, [] => simp [getTo]
    | k + 1, c :: l =>
      simp only [List.length_cons, getTo]
      simp only [reduceCtorEq, if_false]
      rcases h : nextV (c :: l) with _ | ⟨x, r⟩
      · rfl
      · have hlt := nextV_len h
        simp only [List.length_cons] at hlt hl
        dsimp only
        rw [ih k (by omega) r (by omega)]
        rcases Nat.lt_or_ge l.length (k + 1) with h2 | h2
        · rw [ih l.length (by omega) r (by omega)]
        · omega
theorem getV_nil : getV [] = some [] := rfl
theorem getV_step {l : List UInt8} (h : l ≠ []) : getV l = match nextV l with | none => none | some (x, r) => (getV r).map (x :: ·) := by
  match l, h with
  | c :: l, _ =>
    rw [← getTo_fuel (l.length + 1) (c :: l) (by simp)]
    simp only [getTo, reduceCtorEq, if_false]
    rcases h : nextV (c :: l) with _ | ⟨x, r⟩
    · rfl
    · have hlt := nextV_len h
      simp only [List.length_cons] at hlt
      dsimp only
      rw [getTo_fuel l.length r (by omega)]

theorem Sl.newVal (w : World) (x : Val) (g : Nat) (hg : w.heap.size = g) : Sl (w.alloc (.cells #[.int .i64 x.kind, .int .i64 x.n, .int .i64 x.scale, .string ⟨x.s.toArray⟩] 29)) 4 (some ⟨g, 0, none⟩) 1 1 (vcs [x]) := by
  subst hg
  have := Sl.fresh (w := w) #[.int .i64 x.kind, .int .i64 x.n, .int .i64 x.scale, .string ⟨x.s.toArray⟩] 29 (0, 0) 4 1 1 rfl (Nat.le_refl _) (by simp [maxLen])
  simpa [vcs, Val.cells] using this
def Gotten (w : World) (r : Option (List Val)) : Ending → World → Prop := fun e w' => Below w.heap.size w w' ∧ match r with
  | none => e = .returned (.tuple #[.slice none 0 0, .bool false])
  | some l => ∃ A c, e = .returned (.tuple #[.slice A l.length c, .bool true]) ∧ Sl w' 4 A l.length c (vcs l)

set_option maxRecDepth 100000 in
set_option maxHeartbeats 1000000 in
theorem keysGet_any (w : World) (A : Option Addr) (n c : Nat) (l : List UInt8) (hs : Sl w 1 A n c (bvs l)) (hn : n ≤ 1000000) (hT : Tabs w) :
    Calls Tryd.prog 14 #[.slice A n c] w (Gotten w (getV l)) := by
  obtain ⟨ANS, hA⟩ : ∃ r, getV l = r := ⟨_, rfl⟩
  rw [hA]
  have HA := hide hA
  have hlen := hs.blen
  clear hA
  go_enter Tryd.func14, Tryd.ntmps14
  go_wp2_with fail
  go_loopw [0, 4] (fun b v wr => ∃ (A1 : Option Addr) (c1 : Nat) (r : List UInt8) (o : List Val), b = .slice A1 r.length c1 ∧ Sl wr 1 A1 r.length c1 (bvs r) ∧ o.length + r.length ≤ n ∧ OwnV wr w.heap.size v o ∧ Below w.heap.size w wr ∧ Hid ((getV r).map (o ++ ·) = ANS)) (fun b _ _ => match b with | .slice _ k _ => k | _ => 0)
  case atStart => exact ⟨A, c, l, [], by rw [hlen], by rw [hlen]; exact hs, by simp; omega, OwnV.nil _ _, Below.refl _ _, hide (by rw [← unhide HA]; simp)⟩
  case round =>
    obtain ⟨A1, c1, r, o, rfl, hr, hol, ho, hb, hv⟩ := hrel
    clear HA hs hlen
    have hbs := hb.size
    have hTr := hT.below hb
    rcases r with _ | ⟨t, r⟩
    · have hend : ANS = some o := by rw [← unhide hv, getV_nil]; simp
      subst hend
      obtain ⟨A2, c2, hvv, hs2⟩ := ho.form
      subst hvv
      go_wp2_with fail
      go_ret2
      exact ⟨hb, A2, c2, rfl, hs2⟩
    · have hne : (t :: r) ≠ [] := by simp
      have hst := getV_step hne
      have hl0 : (0 : Int) < ((t :: r).length : Int) := by simp
      generalize t :: r = l1 at *
      have hnx := fun (h : l1.length ≤ 100000000000) => keysNext_any wr _ _ _ _ hr h hTr
      rcases hN : nextV l1 with _ | ⟨x, r1⟩
      · have hend : ANS = none := by rw [← unhide hv, hst, hN]; rfl
        subst hend
        have hcall := hnx (by omega)
        rw [hN] at hcall
        have Hc := hide hcall
        clear hcall hnx hst hv hN hne hr hTr hT
        go_wp2_with (go_at_call 18; refine (unhide Hc).mono ?_; rintro e w1 ⟨hd, rfl⟩; have hbw : Below w.heap.size w w1 := hb.trans (hd.mono hbs); have hsz := hbw.size; clear hd)
        go_ret2
        exact ⟨(by repeat (first | with_reducible exact Below.refl _ _ | with_reducible assumption | ((with_reducible refine Below.alloc ?_ ?_ _); rotate_left; (first | exact Nat.le_refl _ | (simp; done) | (simp; omega) | omega)) | ((with_reducible refine Below.setCell ?_ ?_ _); rotate_left; (first | exact Nat.le_refl _ | (simp; done) | (simp; omega) | omega)) | (with_reducible refine Below.drew ?_) | (with_reducible refine Go.RowKit.below_drewN ?_ _))), rfl⟩
      · have hcall := hnx (by omega)
        rw [hN] at hcall
        have hr1 := nextV_len hN
        have hv2 : Hid ((getV r1).map ((o ++ [x]) ++ ·) = ANS) := by
          have := unhide hv
          rw [hst, hN] at this
          refine hide ?_
          rw [← this]
          simp [Option.map_map, Function.comp_def]
        have Hc := hide hcall
        have hlt : ∀ k, u4.ownBlock = some k → k < wr.heap.size := fun k hk => (World.ownsRow.lt ho k hk).2
        have Hlt := hide hlt
        clear hcall hnx hst hv hN hne hr hTr hT hlt
        go_wp2_with (first
          | (go_at_call 18; refine (unhide Hc).mono ?_; rintro e w1 ⟨hd, A2, c2, rfl, hs2⟩; have hbw : Below w.heap.size w w1 := hb.trans (hd.mono hbs); have ho1 := ho.below hd (Nat.le_refl _); have hsz := hd.size; clear hd)
          | (refine app_vals rfl (.tmp 19) (.tmp 21) rfl rfl (B := w.heap.size) (l := o) (l' := [x]) ((ho1.alloc _).alloc _) rfl (Sl.newVal _ x _ (by simp)) ?_ ?_ ?_; (· simp; omega); (· simp; omega); intro v2 w2 ho2 hx2))
        refine ⟨⟨A2, c2, r1, o ++ [x], rfl, ?_, by simp; omega, ho2, ?_, hv2⟩, hr1⟩
        · refine OwnB.sl (World.ownsRow.kept (((OwnB.alloc hs2 _).alloc _)) hx2.grown ?_)
          rcases A2 with _ | a2
          · exact .inl rfl
          · refine .inr fun e => ?_
            have h1 := (World.ownsRow.lt hs2 a2.block rfl).1
            have h2 := unhide Hlt a2.block e.symm
            omega
        · exact Below.trans (b := (w1.alloc (.cells #[.int .i64 x.kind, .int .i64 x.n, .int .i64 x.scale, .string ⟨x.s.toArray⟩] 29)).alloc (.cells #[.int .i64 x.kind, .int .i64 x.n, .int .i64 x.scale, .string ⟨x.s.toArray⟩] 29)) ((hbw.alloc (by omega) _).alloc (by simp; omega) _) (hx2.below (by simp; omega) (own_lies ho))
end Go.Proofs.YtclhnfalebiieaaDoor
