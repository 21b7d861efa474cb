/-
  Decimal: what the document's Parse does; the law DecimalParses.
-/
import Derived.Test.YtllpobcecingiaaGreatDoorDc
set_option linter.unusedVariables false
set_option linter.unusedSimpArgs false
namespace Go.Proofs.YtllpobcecingiaaGreatDoor
open Go.RowKit

/-! ## the loop -/
def hRP : Hints := ⟨[], [(0, ⟨[(0, false), (5, false), (6, false), (7, false), (8, false), (9, false)], []⟩)]⟩
noncomputable def lRP : List (FuncId × PFn) := [(63, p_trim), (62, p_Int)]
theorem ok_lRP : AllOK NGd Wd lRP := allOK_cons ok_trim (allOK_cons ok_Int allOK_nil)
def frP (s : List UInt8) (i : Int) (m : Bool) (nl : Option Bool) (l : Nat) (c : List PV) (pt f : Int) : St :=
  frame 111 [(0, (.str s, 0)), (5, (.int .i64 i, 0)), (6, (.bool m, 0)), (7, (.sl nl 1 l c, 0)), (8, (.int .i64 pt, 0)), (9, (.int .i64 f, 0))] []
noncomputable def rpLoop (fu n : Nat) (st : St) : Option PV := loopF (en lRP) hRP fu false Tryz.f38 [1, 1, 1, 1, 1, 1, 1, 0, 0] 0 n st
theorem rp_raw (fu : Nat) (s : List UInt8) : prun (en lRP) hRP fu false Tryz.f38 [.str s] =
    bif !(s == []) then ixB s 0 fun v => bif (v.toNat : Int) == 45 then rpLoop fu fu (frP s 1 ((v.toNat : Int) == 45) (some true) 0 [] (-1) 1) else rpLoop fu fu (frP s 0 ((v.toNat : Int) == 45) (some true) 0 [] (-1) 0)
    else rpLoop fu fu (frP s 0 false (some true) 0 [] (-1) 0) := by kernel_rfl
def intO {R : Type} (l0 : Nat) (c0 : List PV) (m : Bool) (k : Int → Bool → Option R) : Option R := (decN l0 c0).bind fun X => bif decide (dlen X ≤ 500) then k (ansV (sgn X m)) (!over64 (sgn X m)) else none
def fin4 (m : Bool) (l : Nat) (c : List PV) (sc : Int) : Option PV :=
  cutO l c fun N => intO (dlen N) (cellsN N) m fun V B => bif !B || (V == 0 && m) then failP else some (.tuple [.int .i64 V, .int .i64 sc, .bool true])
def fin3 (s : List UInt8) (m : Bool) (l : Nat) (c : List PV) (f wh sc : Int) : Option PV :=
  bif !(wh == f) && decide (IntKind.i64.wrap (f + 1) < wh) then ixB s f fun v => bif (v.toNat : Int) == 48 then failP else fin4 m l c sc
  else bif !(wh == f) && decide (IntKind.i64.wrap (f + 1) < wh) then none else bif wh == f || (decide (IntKind.i64.wrap (f + 1) < wh) && false) then failP else fin4 m l c sc
def fin2 (s : List UInt8) (m : Bool) (l : Nat) (c : List PV) (pt f wh : Int) : Option PV :=
  bif decide (0 ≤ pt) then bif IntKind.i64.wrap (IntKind.i64.wrap ((s.length : Int) - pt) - 1) == 0 || decide (6 < IntKind.i64.wrap (IntKind.i64.wrap ((s.length : Int) - pt) - 1)) then failP else fin3 s m l c f wh (IntKind.i64.wrap (IntKind.i64.wrap ((s.length : Int) - pt) - 1))
  else fin3 s m l c f wh 0
def finP (s : List UInt8) (m : Bool) (l : Nat) (c : List PV) (pt f i : Int) : Option PV := bif decide (0 ≤ pt) then fin2 s m l c pt f pt else fin2 s m l c pt f i
theorem rp_step (fu : Nat) (s : List UInt8) (i : Int) (m : Bool) (nl : Option Bool) (l : Nat) (c : List PV) (pt f : Int) (K : St → Option PV) :
    stepF (en lRP) hRP fu false Tryz.f38 [1, 1, 1, 1, 1, 1, 1, 0, 0] (frP s i m nl l c pt f) (fun st => pnorm (hRP.loop.lookup 0) st K) =
    bif decide (i < (s.length : Int)) then ixB s i fun v => bif (v.toNat : Int) == 46 && decide (pt < 0) && decide (f < i) then K (frP s (IntKind.i64.wrap (i + 1)) m nl l c i f) else
      ixB s i fun v => bif !decide ((v.toNat : Int) < 48) then ixB s i fun v => bif decide (57 < (v.toNat : Int)) then failP else ixB s i fun v => room 1 l (K (frP s (IntKind.i64.wrap (i + 1)) m ((some false).map (· && (l == 0))) (1 + l) (.int .i64 (IntKind.i64.wrap (IntKind.u8.wrap ((v.toNat : Int) - 48))) :: c) pt f)) else failP
    else finP s m l c pt f i := by kernel_rfl

/-! ## the scan -/
def ptI : Option Nat → Int
  | none => -1
  | some p => p
def scan (f : Nat) : List UInt8 → Nat → Option Nat → List Nat → Option (Option Nat × List Nat)
  | [], _, pt, ds => some (pt, ds)
  | c :: l, i, pt, ds => bif c == 46 && pt.isNone && decide (f < i) then scan f l (i + 1) (some i) ds else bif isD c then scan f l (i + 1) pt ((c.toNat - 48) :: ds) else none
theorem rp_loop (fu : Nat) (s : List UInt8) (hs : s.length ≤ 400) (m : Bool) (f : Nat) : ∀ (k i n : Nat) (nl : Option Bool) (pt : Option Nat) (ds : List Nat), i + k = s.length → k < n → ds.length ≤ i →
    rpLoop fu n (frP s (i : Int) m nl ds.length (cellsD ds) (ptI pt) (f : Int)) = match scan f (s.drop i) i pt ds with | none => failP | some (pt', ds') => finP s m ds'.length (cellsD ds') (ptI pt') (f : Int) (s.length : Int)
  | k, i, 0, _, _, _, _, h, _ => by omega
  | 0, i, n + 1, nl, pt, ds, hi, hn, hd => by
    unfold rpLoop
    rw [loopF_succ, rp_step, cond_f (decide_eq_false (by omega)), List.drop_of_length_le (by omega), show i = s.length by omega]
    rfl
  | k + 1, i, n + 1, nl, pt, ds, hi, hn, hd => by
    unfold rpLoop
    have hc := List.getElem?_eq_getElem (l := s) (i := i) (by omega)
    rw [loopF_succ, rp_step, cond_t (decide_eq_true (by omega)), ixB_eq hc, ixB_eq hc, ixB_eq hc, ixB_eq hc, wrapI_of (x := (i : Int) + 1) (by omega) (by omega), List.drop_eq_getElem_cons (by omega), scan, room_eq (by omega)]
    generalize s[i] = c
    have ec : ((c.toNat : Int) == 46) = (c == 46) := by
      rw [Bool.eq_iff_iff]
      simp only [beq_iff_eq]
      constructor
      · intro e; apply UInt8.toNat_inj.1; simp only [UInt8.reduceToNat]; omega
      · intro e; subst e; rfl
    have ep : decide (ptI pt < 0) = pt.isNone := by cases pt with
      | none => rfl
      | some p => exact decide_eq_false (show ¬ ((p : Nat) : Int) < 0 by omega)
    have ef : decide ((f : Int) < (i : Int)) = decide (f < i) := by congr 1; simp only [eq_iff_iff]; omega
    rw [ec, ep, ef]
    cases hx : c == 46 && pt.isNone && decide (f < i)
    · simp only [cond_false]
      by_cases h1 : 48 ≤ c.toNat
      · rw [cond_t (by rw [decide_eq_false (by omega)]; rfl)]
        by_cases h2 : c.toNat ≤ 57
        · have hD : isD c = true := by unfold isD; rw [decide_eq_true h1, decide_eq_true h2]; rfl
          rw [cond_f (decide_eq_false (by omega)), hD, cond_true]
          have ih := rp_loop fu s hs m f k (i + 1) n ((some false).map (· && (ds.length == 0))) pt ((c.toNat - 48) :: ds) (by omega) (by omega) (by simp; omega)
          unfold rpLoop at ih
          rw [← ih]
          have e1 : IntKind.i64.wrap (IntKind.u8.wrap ((c.toNat : Int) - 48)) = ((c.toNat - 48 : Nat) : Int) := by
            have : IntKind.u8.wrap ((c.toNat : Int) - 48) = (c.toNat : Int) - 48 := by
              have e8 : ∀ x : Int, IntKind.u8.wrap x = x % 256 := fun x => by simp only [IntKind.wrap]; rfl
              rw [e8]; omega
            rw [this, wrapI_of (by omega) (by omega)]; omega
          rw [e1, show 1 + ds.length = ((c.toNat - 48) :: ds).length by simp; omega]
          rfl
        · have hD : isD c = false := by unfold isD; rw [decide_eq_false h2, Bool.and_false]
          rw [cond_t (decide_eq_true (by omega)), hD, cond_false]
      · have hD : isD c = false := by unfold isD; rw [decide_eq_false h1]; rfl
        rw [cond_f (by rw [decide_eq_true (by omega)]; rfl), hD, cond_false]
    · simp only [cond_true]
      have ih := rp_loop fu s hs m f k (i + 1) n nl (some i) ds (by omega) (by omega) (by omega)
      unfold rpLoop at ih
      exact ih
/-- the digits of a text, put ahead -/
def pushD (w : List UInt8) (ds : List Nat) : List Nat := w.foldl (fun ds c => (c.toNat - 48) :: ds) ds
def natL : List Nat → Nat
  | [] => 0
  | d :: l => d + 10 * natL l
theorem push_len : ∀ (w : List UInt8) (ds : List Nat), (pushD w ds).length = ds.length + w.length
  | [], ds => by simp [pushD]
  | c :: w, ds => by
    have := push_len w ((c.toNat - 48) :: ds)
    simp only [pushD, List.foldl_cons, List.length_cons] at this ⊢
    omega
theorem push_nat : ∀ (w : List UInt8) (ds : List Nat), natL (pushD w ds) = vacc (natL ds) w
  | [], ds => rfl
  | c :: w, ds => by
    have := push_nat w ((c.toNat - 48) :: ds)
    simp only [pushD, vacc, List.foldl_cons, natL] at this ⊢
    rw [this, show c.toNat - 48 + 10 * natL ds = natL ds * 10 + (c.toNat - 48) by omega]
theorem push_lt : ∀ (w : List UInt8) (ds : List Nat), w.all isD = true → (∀ d ∈ ds, d < 10) → ∀ d ∈ pushD w ds, d < 10
  | [], ds, _, h => h
  | c :: w, ds, hw, h => by
    rw [List.all_cons, Bool.and_eq_true] at hw
    have hc := hw.1
    unfold isD at hc
    simp only [Bool.and_eq_true, decide_eq_true_eq] at hc
    refine push_lt w ((c.toNat - 48) :: ds) hw.2 ?_
    intro d hd
    rcases List.mem_cons.1 hd with rfl | hd
    · omega
    · exact h d hd
theorem push_app (w r : List UInt8) (ds : List Nat) : pushD (w ++ r) ds = pushD r (pushD w ds) := by simp [pushD]
theorem natC_L : ∀ {ds : List Nat}, (∀ d ∈ ds, d < 10) → natC (cellsD ds) = some (natL ds)
  | [], _ => rfl
  | d :: ds, h => by
    have hd := h d (List.mem_cons_self ..)
    show (if 0 ≤ (d : Int) ∧ (d : Int) < 10 then (natC (cellsD ds)).map fun n => (d : Int).toNat + 10 * n else none) = _
    rw [if_pos (by omega), natC_L (fun x hx => h x (List.mem_cons_of_mem _ hx))]
    rfl
theorem isD_ne {c : UInt8} (h : isD c = true) : (c == 46) = false := by
  unfold isD at h
  simp only [Bool.and_eq_true, decide_eq_true_eq] at h
  rw [beq_eq_false_iff_ne]
  intro e
  subst e
  simp at h
theorem scan_digits (f : Nat) : ∀ (w t : List UInt8) (i : Nat) (pt : Option Nat) (ds : List Nat), w.all isD = true → scan f (w ++ t) i pt ds = scan f t (i + w.length) pt (pushD w ds)
  | [], t, i, pt, ds, _ => rfl
  | c :: w, t, i, pt, ds, h => by
    rw [List.all_cons, Bool.and_eq_true] at h
    rw [List.cons_append, scan, isD_ne h.1, h.1]
    simp only [Bool.false_and, cond_false, cond_true]
    rw [scan_digits f w t (i + 1) pt _ h.2, List.length_cons, show i + 1 + w.length = i + (w.length + 1) by omega]
    rfl
theorem scan_bad (f : Nat) : ∀ (w t : List UInt8) (i : Nat) (pt : Option Nat) (ds : List Nat), w.all isD = false → (pt.isSome = true ∨ cutB w = false) → scan f (w ++ t) i pt ds = none
  | [], t, i, pt, ds, h, _ => by cases h
  | c :: w, t, i, pt, ds, h, hp => by
    rw [List.cons_append, scan]
    have h46 : (c == 46 && pt.isNone && decide (f < i)) = false := by
      rcases hp with hp | hp
      · cases pt with
        | none => cases hp
        | some p => simp
      · unfold cutB at hp
        simp only [List.any_cons, Bool.or_eq_false_iff] at hp
        rw [hp.1]; rfl
    rw [h46, cond_false]
    cases hc : isD c
    · rfl
    · rw [cond_true]
      rw [List.all_cons, hc, Bool.true_and] at h
      refine scan_bad f w t (i + 1) pt _ h ?_
      rcases hp with hp | hp
      · exact .inl hp
      · unfold cutB at hp ⊢
        simp only [List.any_cons, Bool.or_eq_false_iff] at hp
        exact .inr hp.2
theorem cutA_no (s : List UInt8) : cutB (cutA s) = false := by
  unfold cutB cutA
  rw [List.any_eq_false]
  intro c hc
  have := List.all_eq_true.1 (List.all_takeWhile (p := notP) (l := s)) c hc
  unfold notP at this
  simpa using this

/-! ## the end -/
theorem cutO_L {R : Type} {ds : List Nat} {k : Nat → Option R} (h : ∀ d ∈ ds, d < 10) (hl : ds.length ≤ 600) : cutO ds.length (cellsD ds) k = k (natL ds) := by
  unfold cutO
  rw [natC_L h]
  exact cond_t (by simp [cellsD, hl])
theorem natL_dlen {ds : List Nat} (h : ∀ d ∈ ds, d < 10) : dlen (natL ds) ≤ ds.length := by
  have := (natC_inv (natC_L h)).2
  rw [show (cellsD ds).length = ds.length by simp [cellsD]] at this
  exact (dlen_le _ _).2 this
def valF (N : Nat) (m : Bool) (sc : Int) : Option PV := bif over64 (sgn N m) || (sgn N m == 0 && m) then failP else some (.tuple [.int .i64 (sgn N m), .int .i64 sc, .bool true])
theorem fin4_eq {ds : List Nat} {m : Bool} {sc : Int} (h : ∀ d ∈ ds, d < 10) (hl : ds.length ≤ 500) : fin4 m ds.length (cellsD ds) sc = valF (natL ds) m sc := by
  have := natL_dlen h
  unfold fin4 valF
  rw [cutO_L h (by omega)]
  unfold intO
  rw [decN_big]
  simp only [Option.bind_some]
  rw [cond_t (decide_eq_true (by omega)), Bool.not_not]
  unfold ansV
  cases over64 (sgn (natL ds) m) <;> rfl
theorem fin3_eq {s : List UInt8} {ds : List Nat} {m : Bool} {f wh : Nat} {sc : Int} (h : ∀ d ∈ ds, d < 10) (hl : ds.length ≤ 500) (hf : f ≤ 1) (hw : f ≤ wh) (hw2 : wh ≤ s.length) (hs : s.length ≤ 400) :
    fin3 s m ds.length (cellsD ds) (f : Int) (wh : Int) sc = bif decide (wh = f) || (decide (f + 1 < wh) && (s[f]? == some 48)) then failP else valF (natL ds) m sc := by
  unfold fin3
  rw [fin4_eq h hl, wrapI_of (by omega) (by omega)]
  by_cases e : wh = f
  · subst e
    rw [cond_f (by simp), cond_f (by simp), cond_t (by simp), decide_eq_true rfl]
    rfl
  · have e1 : ((wh : Int) == (f : Int)) = false := by rw [beq_eq_false_iff_ne]; omega
    rw [e1, decide_eq_false e]
    by_cases k : f + 1 < wh
    · have hc := List.getElem?_eq_getElem (l := s) (i := f) (by omega)
      rw [cond_t (by rw [decide_eq_true (by omega)]; rfl), ixB_eq hc, hc, decide_eq_true k]
      generalize s[f] = c
      have e2 : ((c.toNat : Int) == 48) = (some c == some 48) := by
        rw [Bool.eq_iff_iff]
        simp only [beq_iff_eq, Option.some.injEq]
        constructor
        · intro e; apply UInt8.toNat_inj.1; simp only [UInt8.reduceToNat]; omega
        · intro e; subst e; rfl
      rw [e2]
      rfl
    · rw [cond_f (by rw [decide_eq_false (by omega)]; rfl), cond_f (by rw [decide_eq_false (by omega)]; rfl), decide_eq_false k]
      simp
theorem resV (N : Nat) (m : Bool) (k : Nat) : valF N m (k : Int) = some (resP (bif over64 (sgn N m) || (sgn N m == 0 && m) then none else some (sgn N m, k))) := by
  unfold valF
  cases over64 (sgn N m) || (sgn N m == 0 && m) <;> rfl
theorem scan_end {s b : List UInt8} {m : Bool} {f : Nat} (hf : f ≤ 1) (hs : s.length ≤ 400) (hb : s.length = f + b.length) (hd : s.drop f = b) :
    (match scan f b f none [] with | none => failP | some (pt', ds') => finP s m ds'.length (cellsD ds') (ptI pt') (f : Int) (s.length : Int)) = some (resP (valP (cutA b) (cutR b) (cutB b) m)) := by
  have hh : s[f]? = b.head? := by rw [← hd, List.head?_drop]
  have no : ∀ d ∈ ([] : List Nat), d < 10 := fun d h => by cases h
  cases hc : cutB b
  · obtain ⟨e1, e2⟩ := cut_none hc
    rw [e1, e2]
    unfold valP badP
    cases ha : b.all isD
    · have := scan_bad f b [] f none [] ha (.inr hc)
      rw [List.append_nil] at this
      have hdg : digB b = false := by unfold digB; rw [ha]; rfl
      rw [this, hdg]
      rfl
    · have := scan_digits f b [] f none [] ha
      rw [List.append_nil] at this
      have hp := push_lt b [] ha no
      have hl := push_len b []
      simp only [List.length_nil, Nat.zero_add] at hl
      rw [this]
      simp only [scan]
      show finP s m _ _ (-1) _ _ = _
      unfold finP fin2
      rw [cond_f (by decide), cond_f (by decide), fin3_eq hp (by omega) hf (by omega) (Nat.le_refl _) hs, push_nat, hh, List.append_nil]
      have ed : digB b = !decide (s.length = f) := by
        unfold digB
        rw [ha, Bool.true_and]
        cases b with
        | nil => simp at hb; rw [decide_eq_true hb]; rfl
        | cons c t => rw [decide_eq_false (by simp at hb; omega)]; rfl
      have el : decide (1 < b.length) = decide (f + 1 < s.length) := by congr 1; simp only [eq_iff_iff]; omega
      rw [ed, el, Bool.not_not]
      show (bif decide (s.length = f) || (decide (f + 1 < s.length) && (b.head? == some 48)) then failP else valF (digV b) m 0) = some (resP (bif decide (s.length = f) || (decide (f + 1 < s.length) && b.head? == some 48) || false then none else _))
      rw [Bool.or_false]
      cases decide (s.length = f) || (decide (f + 1 < s.length) && (b.head? == some 48))
      · exact resV (digV b) m 0
      · rfl
  · obtain ⟨e1, e2⟩ := cut_some hc
    have hnA := cutA_no b
    have hlen : b.length = (cutA b).length + 1 + (cutR b).length := by
      conv => lhs; rw [e1]
      simp only [List.length_append, List.length_cons]; omega
    have hhd : ∀ c t, cutA b = c :: t → b.head? = some c := by
      intro c t e
      rw [e1, e]; rfl
    generalize cutA b = w at *
    generalize cutR b = r at *
    unfold valP badP
    cases ha : w.all isD
    · have hdg : digB w = false := by unfold digB; rw [ha]; rfl
      rw [e1, scan_bad f w _ f none [] ha (.inr hnA), hdg]
      rfl
    · rw [e1, scan_digits f w _ f none [] ha, scan]
      simp only [beq_self_eq_true, Option.isNone_none, Bool.true_and]
      by_cases hw : w = []
      · subst hw
        rw [decide_eq_false (by simp)]
        rfl
      · have hwl : 0 < w.length := List.length_pos_iff.2 hw
        have hdw : digB w = true := digB_iff.2 ⟨ha, hw⟩
        rw [decide_eq_true (by omega), cond_true, hdw]
        cases hr : r.all isD
        · have := scan_bad f r [] (f + w.length + 1) (some (f + w.length)) (pushD w []) hr (.inl rfl)
          rw [List.append_nil] at this
          have hdr : digB r = false := by unfold digB; rw [hr]; rfl
          rw [this, hdr]
          simp only [Bool.not_false, Bool.true_or, Bool.and_true, Bool.or_true, cond_true]
          rfl
        · have := scan_digits f r [] (f + w.length + 1) (some (f + w.length)) (pushD w []) hr
          rw [List.append_nil] at this
          rw [this, ← push_app]
          have hall : (w ++ r).all isD = true := by rw [List.all_append, ha, hr]; rfl
          have hp := push_lt (w ++ r) [] hall no
          have hl := push_len (w ++ r) []
          simp only [List.length_nil, Nat.zero_add, List.length_append] at hl
          simp only [scan]
          show finP s m _ _ (((f + w.length : Nat) : Int)) _ _ = _
          unfold finP fin2
          have hsc : IntKind.i64.wrap (IntKind.i64.wrap ((s.length : Int) - ((f + w.length : Nat) : Int)) - 1) = (r.length : Int) := by
            rw [wrapI_of (x := (s.length : Int) - _) (by omega) (by omega), wrapI_of (by omega) (by omega)]; omega
          rw [cond_t (decide_eq_true (by omega)), cond_t (decide_eq_true (by omega)), hsc, fin3_eq hp (by omega) hf (by omega) (by omega) hs, push_nat, hh]
          have edr : digB r = !decide (r.length = 0) := by
            unfold digB
            rw [hr, Bool.true_and]
            cases r with
            | nil => rfl
            | cons c t => rw [decide_eq_false (by simp)]; rfl
          have e0 : ((r.length : Int) == 0) = decide (r.length = 0) := by
            rw [Bool.eq_iff_iff]; simp only [beq_iff_eq, decide_eq_true_eq]; omega
          have e6 : decide (6 < (r.length : Int)) = decide (6 < r.length) := by congr 1; simp only [eq_iff_iff]; omega
          have ewf : decide (f + w.length = f) = false := decide_eq_false (by omega)
          have e1w : decide (f + 1 < f + w.length) = decide (1 < w.length) := by congr 1; simp only [eq_iff_iff]; omega
          obtain ⟨c, t, ew⟩ := List.exists_cons_of_ne_nil hw
          have eh : (w ++ 46 :: r).head? = w.head? := by rw [ew]; rfl
          rw [hhd c t ew, edr, e0, e6, ewf, e1w, Bool.not_not]
          have eh2 : w.head? = some c := by rw [ew]; rfl
          rw [eh2]
          simp only [Bool.not_true, Bool.false_or, Bool.true_and]
          cases h1 : decide (r.length = 0) || decide (6 < r.length)
          · rw [cond_false, Bool.or_false]
            cases h2 : decide (1 < w.length) && some c == some 48
            · exact resV (digV (w ++ r)) m r.length
            · rfl
          · rw [cond_true, Bool.or_true]
            rfl
theorem rp_start0 {fu : Nat} {s : List UInt8} {m : Bool} (hs : s.length ≤ 400) (hfu : 500 ≤ fu) : rpLoop fu fu (frP s 0 m (some true) 0 [] (-1) 0) = some (resP (valP (cutA s) (cutR s) (cutB s) m)) := by
  have h1 := rp_loop fu s hs m 0 s.length 0 fu (some true) none [] (by omega) (by omega) (Nat.le_refl _)
  rw [List.drop_zero] at h1
  exact h1.trans (scan_end (by omega) hs (by omega) List.drop_zero)
theorem rp_start1 {fu : Nat} {c : UInt8} {t : List UInt8} {m : Bool} (hs : (c :: t).length ≤ 400) (hfu : 500 ≤ fu) : rpLoop fu fu (frP (c :: t) 1 m (some true) 0 [] (-1) 1) = some (resP (valP (cutA t) (cutR t) (cutB t) m)) := by
  have hl : (c :: t).length = t.length + 1 := rfl
  have h1 := rp_loop fu (c :: t) hs m 1 t.length 1 fu (some true) none [] (by omega) (by omega) (Nat.zero_le _)
  have hd : (c :: t).drop 1 = t := rfl
  rw [hd] at h1
  exact h1.trans (scan_end (by omega) hs (by omega) hd)
theorem rp_all {fu : Nat} {s : List UInt8} (hs : s.length ≤ 400) (hfu : 500 ≤ fu) : prun (en lRP) hRP fu false Tryz.f38 [.str s] = some (resP (parseP s)) := by
  rw [rp_raw]
  cases s with
  | nil => exact rp_start0 hs hfu
  | cons c t =>
    rw [cond_t (by rfl), ixB_head c t rfl]
    unfold parseP noM
    by_cases h : c = 45
    · subst h
      have e : hasM (45 :: t) = true := rfl
      have e2 : (((45 : UInt8).toNat : Int) == 45) = true := rfl
      rw [e, e2, cond_true, cond_true]
      exact rp_start1 hs hfu
    · have e : hasM (c :: t) = false := by unfold hasM; simp [h]
      have e2 : ((c.toNat : Int) == 45) = false := by
        rw [beq_eq_false_iff_ne]
        intro k
        apply h
        apply UInt8.toNat_inj.1
        simp only [UInt8.reduceToNat]; omega
      rw [e, e2, cond_false, cond_false]
      exact rp_start0 hs hfu
def p_RParse : PFn := ⟨fun xs k => match xs with | [.str s] => bif decide (s.length ≤ 400) then k (resP (parseP s)) else none | _ => none, false⟩
theorem ok_RParse : FOK NGd Wd 38 p_RParse := by
  refine fok wokd ok_lRP (h := hRP) Tryz.func38 rfl (by decide) ?_ ?_
  · intro R xs k
    simp only [p_RParse]
    split
    · exact cond_nat
    · rfl
  · intro xs r h
    simp only [p_RParse] at h
    split at h
    · rename_i s
      rcases hb : decide (s.length ≤ 400) with _ | _ <;> rw [hb] at h
      · cases h
      · simp only [decide_eq_true_eq] at hb
        exact ⟨1000, (rp_all hb (by decide)).trans h⟩
    · cases h

end Go.Proofs.YtllpobcecingiaaGreatDoor
