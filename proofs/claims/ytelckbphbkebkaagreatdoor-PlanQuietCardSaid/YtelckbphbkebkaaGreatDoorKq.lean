/-
  Keys by the evaluator: the tables, ValidString, utf, the scales, Right and Plain.
-/
import Derived.Test.YtelckbphbkebkaaGreatDoorPGw
import Derived.Test.YtelckbphbkebkaaGreatDoorUtf
import Derived.Test.YtelckbphbkebkaaGreatDoorLay
import Derived.Test.YtelckbphbkebkaaGreatDoorSpec
set_option linter.unusedVariables false
set_option linter.unusedSimpArgs false
namespace Go.Proofs.YtelckbphbkebkaaGreatDoor
open Go.RowKit

def NGk : Nat := 2
theorem tabs_size {w : World} (h : Tabs w) : NGk ≤ w.heap.size := by
  have := (h.2 0 (by decide)).1
  exact World.block_lt_of_cell? w _ this
theorem wokk : WOK NGk Tabs := by
  intro w w' h hW
  have hc : ∀ (b o : Nat), b < NGk → w'.cell? ⟨b, o, none⟩ = w.cell? ⟨b, o, none⟩ := by
    intro b o hb
    unfold World.cell?
    simp only [h b hb]
  refine ⟨fun c hlt => ?_, fun i hi => ?_⟩
  · rw [hc _ _ (by decide)]; exact hW.1 c hlt
  · rw [hc _ _ (by decide), hc _ _ (by decide)]; exact hW.2 i hi
theorem cond_nat {R : Type} {b : Bool} {x : PV} {k : PV → Option R} : (bif b then k x else none) = (bif b then some x else none).bind k := by cases b <;> rfl
def p_valid : PFn := ⟨fun xs k => match xs with | [.str s] => bif decide (s.length ≤ 1000000) then k (.bool (Lib.validD s)) else none | _ => none, false⟩
theorem ok_valid : FOK NGk Tabs 82 p_valid := by
  refine fok_calls Tryz.func82 (by kernel_rfl) (by decide) ?_ rfl ?_
  · intro R xs k
    simp only [p_valid]
    split
    · exact cond_nat
    · rfl
  · intro xs r M vs hW h hr
    simp only [p_valid] at h
    split at h
    · rename_i s
      rcases hb : decide (s.length ≤ 1000000) with _ | _ <;> rw [hb] at h
      · cases h
      · simp only [cond_true, Option.some.injEq] at h
        subst h
        simp only [decide_eq_true_eq] at hb
        obtain ⟨v, rfl, h1⟩ := relT1 hr
        simp only [RelD] at h1
        subst h1
        refine (valid_any s M.w (by omega) hW).mono ?_
        rintro e w' ⟨rfl, hbl⟩
        exact ⟨_, rfl, hbl, fun U' _ => rfl⟩
    · cases h
def p_utf : PFn := p_valid
theorem ok_utf : FOK NGk Tabs 130 p_utf := by
  refine fok_calls Tryz.func130 (by kernel_rfl) (by decide) ?_ rfl ?_
  · intro R xs k
    simp only [p_utf, p_valid]
    split
    · exact cond_nat
    · rfl
  · intro xs r M vs hW h hr
    simp only [p_utf, p_valid] at h
    split at h
    · rename_i s
      rcases hb : decide (s.length ≤ 1000000) with _ | _ <;> rw [hb] at h
      · cases h
      · simp only [cond_true, Option.some.injEq] at h
        subst h
        simp only [decide_eq_true_eq] at hb
        obtain ⟨v, rfl, h1⟩ := relT1 hr
        simp only [RelD] at h1
        subst h1
        refine (utf_any s M.w (by omega)).mono ?_
        rintro e w' ⟨rfl, rfl⟩
        exact ⟨_, rfl, Below.refl _ _, fun U' _ => rfl⟩
    · cases h
/-! ## values -/
def scB (s : Int) : Bool := decide (0 ≤ s) && decide (s ≤ 6)
def p_sc : PFn := ⟨fun xs k => match xs with | [.int .i64 s] => k (.bool (scB s)) | _ => none, false⟩
theorem sc_raw1 (l : List (FuncId × PFn)) (s : Int) (fuel : Nat) : prun (en l) ⟨[], []⟩ fuel false Tryz.f81 [.int .i64 s] = some (.bool (decide (0 ≤ s) && decide (s ≤ 6))) := by kernel_rfl
theorem sc_raw2 (l : List (FuncId × PFn)) (s : Int) (fuel : Nat) : prun (en l) ⟨[], []⟩ fuel false Tryz.f129 [.int .i64 s] = some (.bool (decide (0 ≤ s) && decide (s ≤ 6))) := by kernel_rfl
theorem ok_scR : FOK NGk Tabs 81 p_sc := by
  refine fok wokk allOK_nil (h := ⟨[], []⟩) Tryz.func81 rfl (by decide) ?_ ?_
  · intro R xs k
    simp only [p_sc]
    split <;> rfl
  · intro xs r h
    simp only [p_sc] at h
    split at h
    · exact ⟨0, (sc_raw1 [] _ 0).trans h⟩
    · cases h
theorem ok_scS : FOK NGk Tabs 129 p_sc := by
  refine fok wokk allOK_nil (h := ⟨[], []⟩) Tryz.func129 rfl (by decide) ?_ ?_
  · intro R xs k
    simp only [p_sc]
    split <;> rfl
  · intro xs r h
    simp only [p_sc] at h
    split at h
    · exact ⟨0, (sc_raw2 [] _ 0).trans h⟩
    · cases h
/-- is it a right value? -/
def rightB (a n c : Int) (s : List UInt8) : Bool :=
  bif a == 0 then n == 0 && (c == 0 && s == []) else
  bif a == 1 then (n == 0 || n == 1) && (c == 0 && s == []) else
  bif a == 2 then c == 0 && s == [] else
  bif a == 3 then s == [] && scB c else
  bif a == 4 then n == 0 && (c == 0 && (decide (s.length ≤ 200) && Lib.validD s)) else
  bif a == 5 then n == 0 && (c == 0 && decide (s.length ≤ 200)) else false
def utO {R : Type} (s : List UInt8) (k : Bool → Option R) : Option R := bif decide (s.length ≤ 1000000) then k (Lib.validD s) else none
noncomputable def lRight : List (FuncId × PFn) := [(81, p_sc), (82, p_valid)]
def eq4 (a a' n n' c c' : Int) (s s' : List UInt8) : Bool := a == a' && (n == n' && (c == c' && (s == s' && true)))
def rightBody (a n c : Int) (s : List UInt8) : Option PV :=
  bif a == 0 then some (.bool (eq4 a 0 n 0 c 0 s [])) else
  bif a == 1 then some (.bool (eq4 a 1 n (IntKind.i64.wrap (BitVec.ofInt IntKind.i64.bits n &&& BitVec.ofInt IntKind.i64.bits 1).toNat) c 0 s [])) else
  bif a == 2 then some (.bool (eq4 a 2 n n c 0 s [])) else
  bif a == 3 then bif eq4 a 3 n n c c s [] then some (.bool (scB c)) else some (.bool false) else
  bif a == 4 then bif eq4 a 4 n 0 c 0 s s && decide ((s.length : Int) ≤ 200) then utO s fun b => some (.bool b) else some (.bool false) else
  bif a == 5 then some (.bool (eq4 a 5 n 0 c 0 s s && decide ((s.length : Int) ≤ 200))) else some (.bool false)
theorem vright_raw (a n c : Int) (s : List UInt8) : prun (en lRight) ⟨[], []⟩ 0 false Tryz.f46 [.agg [.int .i64 a, .int .i64 n, .int .i64 c, .str s]] = rightBody a n c s := by kernel_rfl
theorem and_one (n : Int) : IntKind.i64.wrap (BitVec.ofInt IntKind.i64.bits n &&& BitVec.ofInt IntKind.i64.bits 1).toNat = n % 2 := by
  have h : (BitVec.ofInt IntKind.i64.bits n &&& BitVec.ofInt IntKind.i64.bits 1).toNat = (n % 2).toNat := by
    rw [BitVec.toNat_and]
    have h1 : (BitVec.ofInt IntKind.i64.bits 1).toNat = 1 := rfl
    have h2 : (BitVec.ofInt IntKind.i64.bits n).toNat = (n % 18446744073709551616).toNat := BitVec.toNat_ofInt ..
    rw [h1, h2, Nat.and_one_is_mod]
    omega
  rw [h, wrapI_of (by omega) (by omega)]
  omega
theorem right_body (a n c : Int) (s : List UInt8) (hs : s.length ≤ 1000000) : rightBody a n c s = some (.bool (rightB a n c s)) := by
  unfold rightBody rightB eq4
  simp only [Bool.and_true]
  have hl : decide ((s.length : Int) ≤ 200) = decide (s.length ≤ 200) := by congr 1; simp only [eq_iff_iff]; omega
  have hn : (n == n % 2) = (n == 0 || n == 1) := by
    rw [Bool.eq_iff_iff]
    simp only [Bool.or_eq_true, beq_iff_eq]
    omega
  rw [and_one, hn, hl]
  by_cases h0 : a = 0
  · subst h0; rfl
  · rw [show (a == 0) = false by simpa using h0]
    by_cases h1 : a = 1
    · subst h1; rfl
    · rw [show (a == 1) = false by simpa using h1]
      by_cases h2 : a = 2
      · subst h2; simp
      · rw [show (a == 2) = false by simpa using h2]
        by_cases h3 : a = 3
        · subst h3
          simp only [cond_false, cond_true, beq_self_eq_true, Bool.true_and]
          cases s == [] <;> rfl
        · rw [show (a == 3) = false by simpa using h3]
          by_cases h4 : a = 4
          · subst h4
            simp only [cond_false, cond_true, beq_self_eq_true, Bool.true_and, Bool.and_true]
            unfold utO
            rw [decide_eq_true hs]
            cases n == 0 <;> cases c == 0 <;> cases decide (s.length ≤ 200) <;> rfl
          · rw [show (a == 4) = false by simpa using h4]
            by_cases h5 : a = 5
            · subst h5
              simp only [cond_false, cond_true, beq_self_eq_true, Bool.true_and, Bool.and_true]
              cases n == 0 <;> cases c == 0 <;> rfl
            · rw [show (a == 5) = false by simpa using h5]; rfl
def p_rightV : PFn := ⟨fun xs k => match xs with | [.agg [.int .i64 a, .int .i64 n, .int .i64 c, .str s]] => bif decide (s.length ≤ 1000000) then k (.bool (rightB a n c s)) else none | _ => none, false⟩
theorem ok_rightV : FOK NGk Tabs 46 p_rightV := by
  refine fok wokk (allOK_cons ok_scR (allOK_cons ok_valid allOK_nil)) (h := ⟨[], []⟩) Tryz.func46 rfl (by decide) ?_ ?_
  · intro R xs k
    simp only [p_rightV]
    split
    · exact cond_nat
    · rfl
  · intro xs r h
    simp only [p_rightV] at h
    split at h
    · rename_i a n c s
      rcases hb : decide (s.length ≤ 1000000) with _ | _ <;> rw [hb] at h
      · cases h
      · simp only [decide_eq_true_eq] at hb
        exact ⟨0, (vright_raw a n c s).trans ((right_body a n c s hb).trans h)⟩
    · cases h
noncomputable def lRRight : List (FuncId × PFn) := [(129, p_sc), (130, p_utf)]
def rr4 (a n c : Int) (s : List UInt8) : Option PV :=
  bif !decide (200 < (s.length : Int)) && a == 4 then utO s fun b => bif !b then some (.bool false) else some (.bool (eq4 a a n 0 c 0 s s))
  else bif !decide (200 < (s.length : Int)) && a == 4 then none else bif decide (200 < (s.length : Int)) || (a == 4 && false) then some (.bool false) else some (.bool (eq4 a a n 0 c 0 s s))
def rrightBody (a n c : Int) (s : List UInt8) : Option PV :=
  bif a == 0 then some (.bool (eq4 a a n 0 c 0 s [])) else
  bif a == 1 then bif !(n == 0) && !(n == 1) then some (.bool false) else some (.bool (eq4 a a n n c 0 s [])) else
  bif a == 2 then some (.bool (eq4 a a n n c 0 s [])) else
  bif a == 3 then bif !scB c then some (.bool false) else some (.bool (eq4 a a n n c c s [])) else
  bif a == 4 then bif a == 4 then rr4 a n c s else some (.bool false) else
  bif a == 5 then rr4 a n c s else some (.bool false)
theorem rright_raw (a n c : Int) (s : List UInt8) : prun (en lRRight) ⟨[], []⟩ 0 false Tryz.f94 [.agg [.int .i64 a, .int .i64 n, .int .i64 c, .str s]] = rrightBody a n c s := by kernel_rfl
theorem rright_body (a n c : Int) (s : List UInt8) (hs : s.length ≤ 1000000) : rrightBody a n c s = some (.bool (rightB a n c s)) := by
  unfold rrightBody rightB rr4 utO eq4
  simp only [Bool.and_true]
  have hl : decide (200 < (s.length : Int)) = !decide (s.length ≤ 200) := by
    rw [Bool.eq_iff_iff]; simp; omega
  rw [hl, decide_eq_true hs]
  by_cases h0 : a = 0
  · subst h0; rfl
  · rw [show (a == 0) = false by simpa using h0]
    by_cases h1 : a = 1
    · subst h1
      simp only [cond_false, cond_true, beq_self_eq_true, Bool.true_and]
      cases n == 0 <;> cases n == 1 <;> rfl
    · rw [show (a == 1) = false by simpa using h1]
      by_cases h2 : a = 2
      · subst h2; simp
      · rw [show (a == 2) = false by simpa using h2]
        by_cases h3 : a = 3
        · subst h3
          simp only [cond_false, cond_true, beq_self_eq_true, Bool.true_and]
          cases s == [] <;> cases scB c <;> rfl
        · rw [show (a == 3) = false by simpa using h3]
          by_cases h4 : a = 4
          · subst h4
            simp only [cond_false, cond_true, beq_self_eq_true, Bool.true_and, Bool.and_true]
            cases n == 0 <;> cases c == 0 <;> cases decide (s.length ≤ 200) <;> cases Lib.validD s <;> rfl
          · rw [show (a == 4) = false by simpa using h4]
            by_cases h5 : a = 5
            · subst h5
              simp only [cond_false, cond_true, beq_self_eq_true, Bool.true_and, Bool.and_true]
              cases n == 0 <;> cases c == 0 <;> cases decide (s.length ≤ 200) <;> rfl
            · rw [show (a == 5) = false by simpa using h5]; rfl
theorem ok_rightR : FOK NGk Tabs 94 p_rightV := by
  refine fok wokk (allOK_cons ok_scS (allOK_cons ok_utf allOK_nil)) (h := ⟨[], []⟩) Tryz.func94 rfl (by decide) ?_ ?_
  · intro R xs k
    simp only [p_rightV]
    split
    · exact cond_nat
    · rfl
  · intro xs r h
    simp only [p_rightV] at h
    split at h
    · rename_i a n c s
      rcases hb : decide (s.length ≤ 1000000) with _ | _ <;> rw [hb] at h
      · cases h
      · simp only [decide_eq_true_eq] at hb
        exact ⟨0, (rright_raw a n c s).trans ((rright_body a n c s hb).trans h)⟩
    · cases h
/-- a value: its cells -/
def valA (a n c : Int) (s : List UInt8) : PV := .agg [.int .i64 a, .int .i64 n, .int .i64 c, .str s]
def plainA (a n c : Int) (s : List UInt8) : PV := valA (bif rightB a n c s then a else 0) (bif rightB a n c s then n else 0) (bif rightB a n c s then c else 0) (bif rightB a n c s then s else [])
theorem plain_raw (a n c : Int) (s : List UInt8) : prun (en [(94, p_rightV)]) ⟨[], []⟩ 0 false Tryz.f61 [.agg [.int .i64 a, .int .i64 n, .int .i64 c, .str s]] =
    bif decide (s.length ≤ 1000000) then bif rightB a n c s then some (valA a n c s) else some (valA 0 0 0 []) else none := by kernel_rfl
def p_plain : PFn := ⟨fun xs k => match xs with | [.agg [.int .i64 a, .int .i64 n, .int .i64 c, .str s]] => bif decide (s.length ≤ 1000000) then k (plainA a n c s) else none | _ => none, false⟩
theorem ok_plain : FOK NGk Tabs 61 p_plain := by
  refine fok wokk (allOK_cons ok_rightR allOK_nil) (h := ⟨[], []⟩) Tryz.func61 rfl (by decide) ?_ ?_
  · intro R xs k
    simp only [p_plain]
    split
    · exact cond_nat
    · rfl
  · intro xs r h
    simp only [p_plain] at h
    split at h
    · rename_i a n c s
      rcases hb : decide (s.length ≤ 1000000) with _ | _ <;> rw [hb] at h
      · cases h
      · refine ⟨0, (plain_raw a n c s).trans ?_⟩
        rw [hb, ← h]
        unfold plainA
        cases rightB a n c s <;> rfl
    · cases h

end Go.Proofs.YtelckbphbkebkaaGreatDoor
