/-
  Nodes: comparisons turned around (the law EvalCompares in plain terms).
-/
import Derived.Test.YtelckbphbkebkaaGreatDoorVf
set_option linter.unusedVariables false
set_option linter.unusedSimpArgs false
set_option maxRecDepth 100000
namespace Go.Proofs.YtelckbphbkebkaaGreatDoor
open Go.RowKit

theorem okV_null : okV vnull = true := rfl
theorem okV_bo (b : Bool) : okV (boV b) = true := by cases b <;> rfl
theorem okV_rt {v : Val} (h : okV v = true) : okV (rtV v) = true := by
  unfold rtV
  cases right v
  · rfl
  · exact h
theorem rtV_rtV (v : Val) : rtV (rtV v) = rtV v := by
  unfold rtV
  rcases h : right v with _ | _
  · simp only [cond_false]
    cases right vnull <;> rfl
  · simp only [cond_true, h]
theorem evS_succ (d : Nat) (row : List Val) {x : NdC} {l : List NdC} (hn : x.n = l.length) (hc : x.c = ndC l) {r : Val × Int} (h : evB (evS d row) x l row = some r) (ho : gd r.1 = true) : evS (d + 1) row x = some r := by
  rw [evS, hn, hc, decNd_of, Option.bind_some, h, Option.bind_some, ho]; rfl
theorem lit_ev (d : Nat) (row : List Val) {v : Val} (h : okV v = true) : evS (d + 1) row (litN v) = some (rtV v, 0) := by
  refine evS_succ d row (x := litN v) (l := []) rfl rfl ?_ (gd_rt (by simp only [okV, Bool.and_eq_true] at h; exact h.1))
  simp only [okV, Bool.and_eq_true] at h
  exact cond_t h.2
/-- a comparison of two literals -/
def cmR (op : List UInt8) (a b : Val) : Val := (cpS op (rtV a) (rtV b)).1
theorem hoS_cp {op : List UInt8} {h : Int → Bool} (hop : ∀ c, hoS op c = some (h c)) (a b : Val) : cpS op a b = (bif !(cmpS a b).2 then vnull else boV (h (cmpS a b).1), true) := by
  unfold cpS
  rw [hop]
theorem cmp_ev (row : List Val) {op : List UInt8} {h : Int → Bool} (hop : ∀ c, hoS op c = some (h c)) (hA : (op == [65, 78, 68] || op == [79, 82]) = false) {a b : Val} (ha : okV a = true) (hb : okV b = true) :
    evS 2 row (twN op (litN a) (litN b)) = some (cmR op a b, 0) := by
  have e := hoS_cp hop (rtV a) (rtV b)
  refine evS_succ 1 row (x := twN op (litN a) (litN b)) (l := [litN a, litN b]) rfl rfl ?_ ?_
  · show biS (evS 1 row) op [litN a, litN b] = _
    unfold biS
    rw [hA]
    have e1 : alS (evS 1 row) ([litN a, litN b].take 2) = some ([rtV a, rtV b], 0) := by
      show alS (evS 1 row) [litN a, litN b] = _
      rw [alS, lit_ev 0 row ha, alS, lit_ev 0 row hb, alS]; rfl
    show (alS (evS 1 row) ([litN a, litN b].take 2)).bind _ = _
    rw [e1]
    show (bif (cpS op (rtV a) (rtV b)).2 then some ((cpS op (rtV a) (rtV b)).1, (0 : Int)) else some (arS op (rtV a) (rtV b))) = _
    unfold cmR
    rw [e]; rfl
  · exact gd_cp _ _ _
theorem cmpI_neg (a b : Int) : cmpI b a = -cmpI a b := by
  unfold cmpI
  by_cases h : a < b
  · rw [decide_eq_true h, decide_eq_false (p := b < a) (by omega)]; rfl
  · rw [decide_eq_false h]
    by_cases h2 : b < a
    · rw [decide_eq_true h2]; rfl
    · rw [decide_eq_false h2]; rfl
theorem cb_neg : ∀ a b : List UInt8, Lib.compareBytes b a = -Lib.compareBytes a b
  | [], [] => rfl
  | [], _ :: _ => rfl
  | _ :: _, [] => rfl
  | x :: a, y :: b => by
    have ih := cb_neg a b
    unfold Lib.compareBytes
    by_cases h : x < y
    · have h2 : ¬ y < x := by
        intro h'
        exact absurd (UInt8.lt_iff_toNat_lt.1 h) (by have := UInt8.lt_iff_toNat_lt.1 h'; omega)
      rw [if_neg h2, if_pos h, if_pos h]; rfl
    · by_cases h2 : y < x
      · rw [if_pos h2, if_neg h, if_pos h2]
      · rw [if_neg h2, if_neg h, if_neg h, if_neg h2]; exact ih
theorem orC_neg (a b : Int) : orC (-a) (-b) = -orC a b := by
  unfold orC
  by_cases h : a = 0
  · subst h; rfl
  · have h1 : (a != 0) = true := by simpa using h
    have h2 : (-a != 0) = true := by
      have : -a ≠ 0 := by omega
      simpa using this
    rw [h1, h2]; rfl
theorem dcmp_neg (a s b t : Int) : dcmp b t a s = -dcmp a s b t := by
  unfold dcmp
  rw [Bool.and_comm]
  cases (scaleB s && scaleB t)
  · rfl
  · exact cmpI_neg _ _
theorem insS_neg {a b : Val} (h : clsI a.kind = clsI b.kind) : insS b a = -insS a b := by
  unfold insS
  rw [← h, dcmp_neg, cmpI_neg, cb_neg, orC_neg]
  cases (clsI a.kind == 2) <;> rfl
theorem clsI_0 {a : Int} (h : clsI a = 0) : a = 0 := by
  unfold clsI at h
  rcases hb : (a == 3) with _ | _ <;> rw [hb] at h
  · exact h
  · cases h
theorem cmpS_neg (a b : Val) : cmpS b a = (-(cmpS a b).1, (cmpS a b).2) := by
  unfold cmpS
  by_cases hc : clsI (rtV a).kind = clsI (rtV b).kind
  · have h1 : (clsI (rtV a).kind == clsI (rtV b).kind) = true := by simpa using hc
    have h2 : (clsI (rtV b).kind == clsI (rtV a).kind) = true := by simpa using hc.symm
    rw [h1, h2]
    by_cases ha : (rtV a).kind = 0
    · have hb : (rtV b).kind = 0 := clsI_0 (by rw [← hc, ha]; rfl)
      rw [ha, hb]; rfl
    · have hb : (rtV b).kind ≠ 0 := fun hb => ha (clsI_0 (by rw [hc, hb]; rfl))
      rw [show ((rtV a).kind == 0) = false by simpa using ha, show ((rtV b).kind == 0) = false by simpa using hb, insS_neg hc]; rfl
  · have h1 : (clsI (rtV a).kind == clsI (rtV b).kind) = false := by simpa using hc
    have h2 : (clsI (rtV b).kind == clsI (rtV a).kind) = false := by simpa using fun h => hc h.symm
    rw [h1, h2]
    cases ((rtV a).kind == 0) <;> cases ((rtV b).kind == 0) <;> rfl
theorem eqV_refl (v : Val) : eqV v v = true := by simp [eqV]
theorem neg0 (c : Int) : (-c == 0) = (c == 0) := by
  by_cases h : c = 0
  · subst h; rfl
  · rw [show (c == 0) = false by simpa using h]
    have : -c ≠ 0 := by omega
    simpa using this
/-- one round of the law -/
theorem ec_one {a b : Val} (ha : okV a = true) (hb : okV b = true) {k : Int} {o1 o2 o3 : List UInt8} {h1 h2 h3 : Int → Bool}
    (e1 : ∀ {K : List UInt8 → Option PV}, opAt ops1 k K = K o1) (e2 : ∀ {K : List UInt8 → Option PV}, opAt ops1 (xor1 k) K = K o2) (e3 : ∀ {K : List UInt8 → Option PV}, opAt ops2 k K = K o3)
    (p1 : ∀ c, hoS o1 c = some (h1 c)) (p2 : ∀ c, hoS o2 c = some (h2 c)) (p3 : ∀ c, hoS o3 c = some (h3 c))
    (q1 : (o1 == [65, 78, 68] || o1 == [79, 82]) = false) (q2 : (o2 == [65, 78, 68] || o2 == [79, 82]) = false) (q3 : (o3 == [65, 78, 68] || o3 == [79, 82]) = false)
    (r1 : ∀ c, h2 c = !h1 c) (r2 : ∀ c, h3 (-c) = h1 c) : ecB (evGd 2) a b k = some (.bool true) := by
  unfold ecB
  have E : ∀ x, evGd 2 x 0 [] = evS 2 [] x := fun x => evGd_row 2 x []
  rw [e1, E, cmp_ev [] p1 q1 ha hb, Option.bind_some, e2, E, cmp_ev [] p2 q2 ha hb, Option.bind_some, e3, E, cmp_ev [] p3 q3 hb ha, Option.bind_some]
  have x1 : cmR o1 a b = bif !(cmpS (rtV a) (rtV b)).2 then vnull else boV (h1 (cmpS (rtV a) (rtV b)).1) := by unfold cmR; rw [hoS_cp p1]
  have x2 : cmR o2 a b = bif !(cmpS (rtV a) (rtV b)).2 then vnull else boV (h2 (cmpS (rtV a) (rtV b)).1) := by unfold cmR; rw [hoS_cp p2]
  have x3 : cmR o3 b a = bif !(cmpS (rtV b) (rtV a)).2 then vnull else boV (h3 (cmpS (rtV b) (rtV a)).1) := by unfold cmR; rw [hoS_cp p3]
  rw [cmpS_neg (rtV a) (rtV b), r2] at x3
  rw [r1] at x2
  rw [show cmR o3 b a = cmR o1 a b from x3.trans x1.symm, eqV_refl, x1, x2]
  cases (cmpS (rtV a) (rtV b)).2
  · rfl
  · cases h1 (cmpS (rtV a) (rtV b)).1 <;> rfl
theorem ec_law {a b : Val} (ha : inI a.n = true) (hb : inI b.n = true) {o : Int} (h0 : 0 ≤ o) (h1 : o < 256) : ecE (evGd 2) a b o = some (.bool true) := by
  unfold ecE
  by_cases hm : 250 < maxI (a.s.length : Int) (b.s.length : Int)
  · rw [decide_eq_true hm]; rfl
  · rw [decide_eq_false hm]
    have hm' : ¬ (250 < maxI (a.s.length : Int) (b.s.length : Int)) := hm
    unfold maxI at hm'
    have ka : okV a = true := by unfold okV; rw [ha, decide_eq_true (by split at hm' <;> omega)]; rfl
    have kb : okV b = true := by unfold okV; rw [hb, decide_eq_true (by split at hm' <;> omega)]; rfl
    have hw : IntKind.i64.wrap (o.tmod 6) = o % 6 := by
      rw [Int.tmod_eq_emod_of_nonneg h0]
      exact wrapI_of (by omega) (by omega)
    show ecB (evGd 2) a b (IntKind.i64.wrap (o.tmod 6)) = _
    rw [hw]
    have hk : o % 6 = 0 ∨ o % 6 = 1 ∨ o % 6 = 2 ∨ o % 6 = 3 ∨ o % 6 = 4 ∨ o % 6 = 5 := by omega
    rcases hk with hk | hk | hk | hk | hk | hk <;> rw [hk]
    · exact ec_one ka kb (o1 := [61]) (o2 := [60, 62]) (o3 := [61]) (h1 := fun c => c == 0) (h2 := fun c => !(c == 0)) (h3 := fun c => c == 0) rfl rfl rfl (fun _ => rfl) (fun _ => rfl) (fun _ => rfl) rfl rfl rfl (fun c => rfl) neg0
    · exact ec_one ka kb (o1 := [60, 62]) (o2 := [61]) (o3 := [60, 62]) (h1 := fun c => !(c == 0)) (h2 := fun c => c == 0) (h3 := fun c => !(c == 0)) rfl rfl rfl (fun _ => rfl) (fun _ => rfl) (fun _ => rfl) rfl rfl rfl (fun c => by simp) (fun c => by rw [neg0])
    · exact ec_one ka kb (o1 := [60]) (o2 := [62, 61]) (o3 := [62]) (h1 := fun c => decide (c < 0)) (h2 := fun c => decide (0 ≤ c)) (h3 := fun c => decide (0 < c)) rfl rfl rfl (fun _ => rfl) (fun _ => rfl) (fun _ => rfl) rfl rfl rfl (fun c => by by_cases h : c < 0 <;> simp [h] <;> omega) (fun c => by by_cases h : c < 0 <;> simp [h])
    · exact ec_one ka kb (o1 := [62, 61]) (o2 := [60]) (o3 := [60, 61]) (h1 := fun c => decide (0 ≤ c)) (h2 := fun c => decide (c < 0)) (h3 := fun c => decide (c ≤ 0)) rfl rfl rfl (fun _ => rfl) (fun _ => rfl) (fun _ => rfl) rfl rfl rfl (fun c => by by_cases h : c < 0 <;> simp [h] <;> omega) (fun c => by by_cases h : 0 ≤ c <;> simp [h] <;> omega)
    · exact ec_one ka kb (o1 := [62]) (o2 := [60, 61]) (o3 := [60]) (h1 := fun c => decide (0 < c)) (h2 := fun c => decide (c ≤ 0)) (h3 := fun c => decide (c < 0)) rfl rfl rfl (fun _ => rfl) (fun _ => rfl) (fun _ => rfl) rfl rfl rfl (fun c => by by_cases h : 0 < c <;> simp [h] <;> omega) (fun c => by by_cases h : 0 < c <;> simp [h])
    · exact ec_one ka kb (o1 := [60, 61]) (o2 := [62]) (o3 := [62, 61]) (h1 := fun c => decide (c ≤ 0)) (h2 := fun c => decide (0 < c)) (h3 := fun c => decide (0 ≤ c)) rfl rfl rfl (fun _ => rfl) (fun _ => rfl) (fun _ => rfl) rfl rfl rfl (fun c => by by_cases h : 0 < c <;> simp [h] <;> omega) (fun c => by by_cases h : c ≤ 0 <;> simp [h] <;> omega)
theorem ok_lEc : AllOK NGc Wc (lEc (evGd 2)) := allOK_cons ok_first22 (allOK_cons ok_two (allOK_cons (ok_ev 2) (allOK_cons ok_rtr (allOK_cons ok_rnt allOK_nil))))
theorem evalComparesLaw (W : World) (a b : Val) (o : Int) (ha : inI a.n = true) (hb : inI b.n = true) (h0 : 0 ≤ o) (h1 : o < 256) (hW : Wc W) :
    Calls Tryz.prog 4 #[.agg #[.int .i64 a.kind, .int .i64 a.n, .int .i64 a.scale, .string ⟨a.s.toArray⟩], .agg #[.int .i64 b.kind, .int .i64 b.n, .int .i64 b.scale, .string ⟨b.s.toArray⟩], .int .u8 o] W fun e W' => e = .returned (.bool true) ∧ Below W.heap.size W W' :=
  law_run (vs := [.agg #[.int .i64 a.kind, .int .i64 a.n, .int .i64 a.scale, .string ⟨a.s.toArray⟩], .agg #[.int .i64 b.kind, .int .i64 b.n, .int .i64 b.scale, .string ⟨b.s.toArray⟩], .int .u8 o]) (xs := [.agg [.int .i64 a.kind, .int .i64 a.n, .int .i64 a.scale, .str a.s], .agg [.int .i64 b.kind, .int .i64 b.n, .int .i64 b.scale, .str b.s], .int .u8 o])
    (fuel := 0) (h := ⟨[], []⟩) wokc ok_lEc Tryz.func4 hW (wc_size hW) ⟨_, _, rfl, val_rel _ _ _ _ _, _, _, rfl, val_rel _ _ _ _ _, _, _, rfl, rfl, rfl⟩ ((ec_raw (evGd 2) a.kind a.n a.scale a.s b.kind b.n b.scale b.s o).trans (ec_law ha hb h0 h1))

end Go.Proofs.YtelckbphbkebkaaGreatDoor
