/-
  Decimal: what Parse does.
-/
import Derived.Test.YtllpobcecingiaaGreatDoorDb
set_option linter.unusedVariables false
set_option linter.unusedSimpArgs false
namespace Go.Proofs.YtllpobcecingiaaGreatDoor
open Go.RowKit

/-! ## the number that digits spell -/
def vacc (a : Nat) (l : List UInt8) : Nat := l.foldl (fun a c => a * 10 + (c.toNat - 48)) a
def digV (l : List UInt8) : Nat := vacc 0 l
theorem vacc_ge : ∀ (l : List UInt8) (a : Nat), a ≤ vacc a l
  | [], a => Nat.le_refl _
  | c :: l, a => Nat.le_trans (by omega) (vacc_ge l (a * 10 + (c.toNat - 48)))
theorem pu10 : ∀ (l : List UInt8) (a : Nat), l.all isD = true → a < 18446744073709551616 → Lib.parseUint10 a l = if vacc a l < 18446744073709551616 then .ok (vacc a l) else .range
  | [], a, _, h => by
    show Lib.NumEnd.ok a = if a < _ then _ else _
    rw [if_pos h]; rfl
  | c :: l, a, hd, h => by
    rw [List.all_cons, Bool.and_eq_true] at hd
    have hc := hd.1
    unfold isD at hc
    simp only [Bool.and_eq_true, decide_eq_true_eq] at hc
    have e : vacc a (c :: l) = vacc (a * 10 + (c.toNat - 48)) l := rfl
    have hge := vacc_ge l (a * 10 + (c.toNat - 48))
    unfold Lib.parseUint10
    rw [if_pos hc, e]
    by_cases h1 : 1844674407370955162 ≤ a
    · rw [if_pos h1, if_neg (by omega)]
    · rw [if_neg h1]
      by_cases h2 : 18446744073709551616 ≤ a * 10 + (c.toNat - 48)
      · rw [if_pos h2, if_neg (by omega)]
      · rw [if_neg h2]
        exact pu10 l _ hd.2 (by omega)
theorem atoi_digits {d : List UInt8} {m : Bool} (hd : d.all isD = true) (hne : d ≠ []) : Lib.atoiAll ((bif m then [45] else []) ++ d) = bif over64 (sgn (digV d) m) then .range else .ok (sgn (digV d) m) := by
  have hp : Lib.parseMag d = if digV d < 18446744073709551616 then .ok (digV d) else .range := by
    unfold Lib.parseMag
    rw [if_neg hne]
    exact pu10 d 0 hd (by decide)
  cases m
  · obtain ⟨c, r, rfl⟩ := List.exists_cons_of_ne_nil hne
    rw [List.all_cons, Bool.and_eq_true] at hd
    have hc := hd.1
    unfold isD at hc
    simp only [Bool.and_eq_true, decide_eq_true_eq] at hc
    rw [cond_false, List.nil_append, Lib.atoiAll_plain c r (by omega) (by omega), hp]
    generalize digV (c :: r) = N
    unfold sgn over64
    rw [cond_false, decide_eq_false (show ¬ (N : Int) < -9223372036854775808 by omega), Bool.false_or]
    by_cases h : N < 18446744073709551616
    · rw [if_pos h]
      unfold Lib.signless
      by_cases k : 9223372036854775807 < (N : Int)
      · rw [decide_eq_true k]
        simp only [cond_true]
        rw [if_pos (by omega)]
      · rw [decide_eq_false k]
        simp only [cond_false]
        rw [if_neg (by omega)]
    · rw [if_neg h, decide_eq_true (by omega)]; rfl
  · rw [cond_true, List.singleton_append, Lib.atoiAll_minus, hp]
    generalize digV d = N
    unfold sgn over64
    rw [cond_true, decide_eq_false (show ¬ 9223372036854775807 < -(N : Int) by omega), Bool.or_false]
    by_cases h : N < 18446744073709551616
    · rw [if_pos h]
      unfold Lib.signed
      by_cases k : -(N : Int) < -9223372036854775808
      · rw [decide_eq_true k]
        simp only [cond_true]
        rw [if_pos (by omega)]
      · rw [decide_eq_false k]
        simp only [cond_false]
        rw [if_neg (by omega)]
    · rw [if_neg h, decide_eq_true (by omega)]; rfl

/-! ## the decimal of a text -/
def badP (w r : List UInt8) (pt : Bool) : Bool := !digB w || (decide (1 < w.length) && (w.head? == some 48)) || (pt && (!digB r || decide (6 < r.length)))
def valP (w r : List UInt8) (pt m : Bool) : Option (Int × Nat) :=
  bif badP w r pt then none else bif over64 (sgn (digV (w ++ r)) m) || (sgn (digV (w ++ r)) m == 0 && m) then none else some (sgn (digV (w ++ r)) m, r.length)
def parseP (s : List UInt8) : Option (Int × Nat) := valP (cutA (noM s)) (cutR (noM s)) (cutB (noM s)) (hasM s)
def resP (o : Option (Int × Nat)) : PV := .tuple [.int .i64 (o.elim 0 fun p => p.1), .int .i64 (o.elim 0 fun p => (p.2 : Int)), .bool o.isSome]
def failP : Option PV := some (.tuple [.int .i64 0, .int .i64 0, .bool false])
def tailC (w r : List UInt8) (m : Bool) (pre : List UInt8) : Option PV :=
  bif decide (pre.length + w.length ≤ 9223372036854775807) then bif decide ((pre ++ w).length + r.length ≤ 9223372036854775807) then bif decide ((pre ++ w ++ r).length ≤ 1000) then
    atoK (pre ++ w ++ r) (fun n => bif n == 0 && m then failP else some (.tuple [.int .i64 n, .int .i64 (r.length : Int), .bool true])) failP (fun _ => failP)
  else none else none else none
def tailP (w r : List UInt8) (m : Bool) : Option PV := bif m then tailC w r m [45] else tailC w r m []
def digO {R : Type} (s : List UInt8) (k : Bool → Option R) : Option R := bif decide (s.length ≤ 500) then k (digB s) else none
def skelP {R : Type} (Q L pt X : Bool) (I : (Bool → Option R) → Option R) (D : (Bool → Option R) → Option R) (F T : Option R) : Option R :=
  bif !!Q && L then I fun z => bif !z && pt then D fun d => bif !d || X then F else T else bif !z && pt then none else bif !z && pt then none else bif !z && pt then none else bif z || (pt && false) then F else T
  else bif !!Q && L then none else
    bif !(!Q || (L && false)) && pt then D fun d => bif !d || X then F else T else
    bif !(!Q || (L && false)) && pt then none else bif !(!Q || (L && false)) && pt then none else bif !(!Q || (L && false)) && pt then none else
    bif !Q || (L && false) || (pt && false) then F else T
theorem skelP_eq {R : Type} {Q L pt X z d : Bool} {I D : (Bool → Option R) → Option R} {F T : Option R} (hI : L = true → ∀ K, I K = K z) (hD : ∀ K, D K = K d) : skelP Q L pt X I D F T = bif !Q || (L && z) || (pt && (!d || X)) then F else T := by
  unfold skelP
  simp only [hD]
  cases L
  · cases Q <;> cases pt <;> cases d <;> cases X <;> rfl
  · simp only [hI rfl]
    cases Q <;> cases pt <;> cases d <;> cases X <;> cases z <;> rfl
def parseBody (b : List UInt8) (m : Bool) : Option PV :=
  bif decide (b.length ≤ 500) then
    digO (cutA b) fun Q => skelP Q (decide (1 < ((cutA b).length : Int))) (cutB b) (decide (6 < ((cutR b).length : Int))) (fun K => ixB (cutA b) 0 fun v => K ((v.toNat : Int) == 48)) (digO (cutR b)) failP (tailP (cutA b) (cutR b) m)
  else none
noncomputable def lParse : List (FuncId × PFn) := [(82, p_CutP), (84, p_Cut), (85, p_digits), (86, p_Atoi)]
theorem ok_lParse : AllOK NGd We lParse := allOK_cons (fok_mono we_d ok_CutP) (allOK_cons (fok_mono we_d ok_Cut) (allOK_cons (fok_mono we_d ok_digits) (allOK_cons ok_Atoi allOK_nil)))
theorem parse_raw (s : List UInt8) : prun (en lParse) ⟨[], []⟩ 0 false Tryz.f58 [.str s] = parseBody (noM s) (hasM s) := by kernel_rfl
theorem noM_len (s : List UInt8) : (noM s).length ≤ s.length := by unfold noM; cases hasM s <;> simp
theorem cut_len (s : List UInt8) : (cutA s).length + (cutR s).length ≤ s.length := by
  cases h : cutB s
  · obtain ⟨e1, e2⟩ := cut_none h
    rw [e1, e2]; simp
  · have := congrArg List.length (cut_some h).1
    simp only [List.length_append, List.length_cons] at this
    omega
theorem digB_iff {s : List UInt8} : digB s = true ↔ s.all isD = true ∧ s ≠ [] := by unfold digB; simp
theorem tail_eq {w r : List UInt8} {m : Bool} (hw : digB w = true) (hr : r.all isD = true) (hl : w.length + r.length ≤ 500) :
    tailP w r m = some (resP (bif over64 (sgn (digV (w ++ r)) m) || (sgn (digV (w ++ r)) m == 0 && m) then none else some (sgn (digV (w ++ r)) m, r.length))) := by
  rw [digB_iff] at hw
  have hd : (w ++ r).all isD = true := by rw [List.all_append, hw.1, hr]; rfl
  have hne : w ++ r ≠ [] := by simp [hw.2]
  have key : tailC w r m (bif m then [45] else []) = some (resP (bif over64 (sgn (digV (w ++ r)) m) || (sgn (digV (w ++ r)) m == 0 && m) then none else some (sgn (digV (w ++ r)) m, r.length))) := by
    have hpl : (bif m then [45] else [] : List UInt8).length ≤ 1 := by cases m <;> simp
    unfold tailC
    rw [cond_t (decide_eq_true (by omega)), cond_t (decide_eq_true (by simp only [List.length_append]; omega)), cond_t (decide_eq_true (by simp only [List.length_append]; omega)), List.append_assoc]
    unfold atoK
    rw [atoi_digits hd hne]
    cases ho : over64 (sgn (digV (w ++ r)) m)
    · simp only [cond_false, Bool.false_or]
      cases hz : sgn (digV (w ++ r)) m == 0 && m
      · rfl
      · rfl
    · rfl
  unfold tailP
  cases m
  · exact key
  · exact key
theorem ixB_head {R : Type} {w : List UInt8} {K : UInt8 → Option R} (c : UInt8) (t : List UInt8) (h : w = c :: t) : ixB w 0 K = K c := by
  subst h
  exact ixB_eq (i := 0) rfl
theorem parse_body {s : List UInt8} (hs : s.length ≤ 400) : parseBody (noM s) (hasM s) = some (resP (parseP s)) := by
  have h1 := noM_len s
  have h2 := cut_len (noM s)
  unfold parseBody parseP valP
  generalize noM s = b at *
  have hz : decide (1 < ((cutA b).length : Int)) = true → ∀ (K : Bool → Option PV), (ixB (cutA b) 0 fun v => K ((v.toNat : Int) == 48)) = K ((cutA b).head? == some 48) := by
    intro hL K
    simp only [decide_eq_true_eq] at hL
    obtain ⟨c, t, e⟩ := List.exists_cons_of_ne_nil (show cutA b ≠ [] by intro e; rw [e] at hL; simp at hL)
    rw [ixB_head c t e, e]
    congr 1
    simp only [List.head?_cons]
    rw [Bool.eq_iff_iff]
    simp only [beq_iff_eq, Option.some.injEq]
    constructor
    · intro k; apply UInt8.toNat_inj.1; simp only [UInt8.reduceToNat]; omega
    · intro k; subst k; rfl
  have hD : ∀ (x : List UInt8), x.length ≤ 500 → ∀ (K : Bool → Option PV), digO x K = K (digB x) := by
    intro x hx K
    unfold digO
    exact cond_t (decide_eq_true hx)
  rw [cond_t (decide_eq_true (by omega)), hD _ (by omega), skelP_eq hz (hD (cutR b) (by omega))]
  have eL : decide (1 < ((cutA b).length : Int)) = decide (1 < (cutA b).length) := by congr 1; simp only [eq_iff_iff]; omega
  have eX : decide (6 < ((cutR b).length : Int)) = decide (6 < (cutR b).length) := by congr 1; simp only [eq_iff_iff]; omega
  rw [eL, eX]
  have eb : (!digB (cutA b) || decide (1 < (cutA b).length) && (cutA b).head? == some 48 || cutB b && (!digB (cutR b) || decide (6 < (cutR b).length))) = badP (cutA b) (cutR b) (cutB b) := rfl
  rw [eb]
  cases hb : badP (cutA b) (cutR b) (cutB b)
  · simp only [cond_false]
    unfold badP at hb
    simp only [Bool.or_eq_false_iff] at hb
    have hw : digB (cutA b) = true := by have := hb.1.1; simpa using this
    have hr : (cutR b).all isD = true := by
      cases hc : cutB b
      · rw [(cut_none hc).2]; rfl
      · have := hb.2
        rw [hc, Bool.true_and, Bool.or_eq_false_iff] at this
        have h3 : digB (cutR b) = true := by simpa using this.1
        exact (digB_iff.1 h3).1
    exact tail_eq hw hr (by omega)
  · rfl
def p_Parse : PFn := ⟨fun xs k => match xs with | [.str s] => bif decide (s.length ≤ 400) then k (resP (parseP s)) else none | _ => none, false⟩
theorem ok_Parse : FOK NGd We 58 p_Parse := by
  refine fok woke ok_lParse (h := ⟨[], []⟩) Tryz.func58 rfl (by decide) ?_ ?_
  · intro R xs k
    simp only [p_Parse]
    split
    · exact cond_nat
    · rfl
  · intro xs r h
    simp only [p_Parse] at h
    split at h
    · rename_i s
      rcases hb : decide (s.length ≤ 400) with _ | _ <;> rw [hb] at h
      · cases h
      · simp only [decide_eq_true_eq] at hb
        exact ⟨0, (parse_raw s).trans ((parse_body hb).trans h)⟩
    · cases h

end Go.Proofs.YtllpobcecingiaaGreatDoor
